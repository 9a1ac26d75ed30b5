/- Proved here: what functions of the program compute, and plain laws. No condition. -/
import Derived.Test.YtldckdbdgbpmpaaTy
set_option linter.unusedSimpArgs false
set_option linter.unusedVariables false
namespace Go.Proofs.Ytldckdbdgbpmpaa
open Go Go.AM

theorem hP : Try.prog.follows .mixedOrders = true := by kernel_rfl

def str (s : List UInt8) : PV := .d (.lit (.string ⟨⟨s⟩⟩))
def bool (b : Bool) : PV := .d (.lit (.bool b))
def int (i : Int) : PV := .d (.lit (.int .i64 i))
def u64 (n : Nat) : PV := .d (.lit (.int .u64 n))
def errno (n : Int) : PV := .d (.lit (.int .i64 n))
def nilS : PV := .d (.lit (.slice none 0 0))
def byts (b : List UInt8) : PV := .d (.sl 1 (b.map encB))
theorem nvB (b : List UInt8) : nvRow (.own 1 (b.map encB)) := by
  intro e he x hx
  obtain ⟨c, _, rfl⟩ := List.mem_map.1 he
  simp only [encB, List.mem_singleton] at hx
  subst hx; trivial

def ixI : Option Nat → Int | some i => i | none => -1
theorem findIdx_any {α : Type} (p : α → Bool) (l : List α) : decide ((0 : Int) ≤ ixI (l.findIdx? p)) = l.any p := by
  rcases h : l.findIdx? p with _ | i
  · rw [List.findIdx?_eq_none_iff] at h
    have : l.any p = false := by rw [List.any_eq_false]; intro x hx; simp [h x hx]
    rw [this]; rfl
  · obtain ⟨h1, h2, _⟩ := List.findIdx?_eq_some_iff_getElem.1 h
    have : l.any p = true := by rw [List.any_eq_true]; exact ⟨_, List.getElem_mem h1, h2⟩
    rw [this]; simp [ixI]
end Go.Proofs.Ytldckdbdgbpmpaa
