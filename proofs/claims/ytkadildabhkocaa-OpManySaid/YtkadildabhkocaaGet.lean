/- Proved here: what functions of the program compute, and plain laws. No condition. -/
import Derived.Test.YtkadildabhkocaaBase
set_option linter.unusedSimpArgs false
set_option linter.unusedVariables false
namespace Go.Proofs.Ytkadildabhkocaa
open Go Go.AM

/-- a label, as it comes in -/
abbrev Lab := List UInt8 × List UInt8 × Unit
def encL (x : Lab) : List DV := [.lit (.string ⟨⟨x.1⟩⟩), .lit (.string ⟨⟨x.2.1⟩⟩)]

theorem findIdx_step {α : Type} (p : α → Bool) (l : List α) (i : Nat) (hi : i < l.length) (h : (l.take i).findIdx? p = none) : (l.take (i + 1)).findIdx? p = if p l[i] then some i else none := by
  rw [List.take_succ_eq_append_getElem hi, List.findIdx?_append, h]
  simp [List.findIdx?_cons, Nat.min_eq_left (Nat.le_of_lt hi)]

abbrev Ask := UInt8 × List UInt8 × List UInt8 × Unit
def encA (x : Ask) : List DV := [.lit (.int .u8 x.1.toNat), .lit (.string ⟨⟨x.2.1⟩⟩), .lit (.string ⟨⟨x.2.2.1⟩⟩)]

theorem u8eq (a : UInt8) (k : Nat) (hk : k < 256) : ((a.toNat : Int) == (k : Int)) = decide (a = UInt8.ofNat k) := by
  rw [Bool.eq_iff_iff]
  simp only [beq_iff_eq, decide_eq_true_eq]
  constructor
  · intro h; apply UInt8.toNat_inj.1; simp; omega
  · intro h; subst h; simp; omega

def okL (x : Lab) : Bool := decide (x.1.length ≤ 100) && decide (x.2.1.length ≤ 100)
def fewL (l : List Lab) : List Lab := (l.take 12).takeWhile okL

theorem takeWhile_stop {α : Type} (p : α → Bool) : ∀ (l : List α) (i : Nat), (∀ x ∈ l.take i, p x = true) → (∀ x, l[i]? = some x → p x = false) → l.takeWhile p = l.take i
  | [], i, _, _ => by simp
  | x :: l, 0, _, h => by simp [List.takeWhile, h x rfl]
  | x :: l, i + 1, h1, h2 => by
    rw [List.takeWhile_cons_of_pos (h1 x (by simp)), List.take_succ_cons, takeWhile_stop p l i (fun y hy => h1 y (by simp [hy])) (fun y hy => h2 y (by simpa using hy))]

theorem fewL_at (l : List Lab) (i : Nat) (hi : i ≤ 12) (h : ∀ x ∈ l.take i, okL x = true) (hs : i = 12 ∨ i = l.length ∨ ∃ x, l[i]? = some x ∧ okL x = false) : fewL l = l.take i := by
  unfold fewL
  rw [takeWhile_stop okL (l.take 12) i (fun x hx => h x (by rw [List.take_take] at hx; rw [Nat.min_eq_left hi] at hx; exact hx)) (fun x hx => ?_)]
  · rw [List.take_take, Nat.min_eq_left hi]
  · rw [List.getElem?_take] at hx
    split at hx
    · rename_i hlt
      rcases hs with rfl | rfl | ⟨y, hy, hb⟩
      · omega
      · simp at hx
      · rw [hy] at hx; cases hx; exact hb
    · cases hx

end Go.Proofs.Ytkadildabhkocaa
