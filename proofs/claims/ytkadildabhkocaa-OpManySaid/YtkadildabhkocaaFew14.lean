/- Proved here: what functions of the program compute, and plain laws. No condition. -/
import Derived.Test.YtkadildabhkocaaSame14
set_option linter.unusedSimpArgs false
set_option linter.unusedVariables false
namespace Go.Proofs.Ytkadildabhkocaa
open Go Go.AM

def okA (x : Ask) : Bool := decide (x.2.1.length ≤ 100) && decide (x.2.2.1.length ≤ 100)
def someA (l : List Ask) : List Ask := (l.take 12).takeWhile okA
theorem someA_at (l : List Ask) (i : Nat) (hi : i ≤ 12) (h : ∀ x ∈ l.take i, okA x = true) (hs : i = 12 ∨ i = l.length ∨ ∃ x, l[i]? = some x ∧ okA x = false) : someA l = l.take i := by
  unfold someA
  rw [takeWhile_stop okA (l.take 12) i (fun x hx => h x (by rw [List.take_take] at hx; rw [Nat.min_eq_left hi] at hx; exact hx)) (fun x hx => ?_)]
  · rw [List.take_take, Nat.min_eq_left hi]
  · rw [List.getElem?_take] at hx
    split at hx
    · rename_i hlt
      rcases hs with rfl | rfl | ⟨y, hy, hb⟩
      · omega
      · simp at hx
      · rw [hy] at hx; cases hx; exact hb
    · cases hx
def fewO (o : OpT) : OpT := (o.1, fewL o.2.1, o.2.2.1, someA o.2.2.2.1, ())

set_option maxRecDepth 8000 in
set_option maxHeartbeats 1000000 in
theorem few14 (o : OpT) (h1 : o.2.1.length ≤ 9223372036854775807) (h2 : o.2.2.2.1.length ≤ 9223372036854775807) :
    AFun Try.prog 9 [.d (.agg (encO o))] [] (.d (.agg (encO (fewO o)))) [] := by
  obtain ⟨k, l, ⟨p1, p2, ⟨⟩⟩, s, ⟨⟩⟩ := o
  simp only at h1 h2
  refine AFun.of_walk hP Try.func9 rfl rfl rfl (by simp) rfl ?_
  simp only [Try.f9, encO, fewO, am, simprocAttr, tys]
  refine ALoopW.intro 64 0 (ι := { i : Nat // i ≤ l.length ∧ i ≤ 12 ∧ ∀ x ∈ l.take i, okL x = true }) (fun i => [(1, .ptr 0 0), (2, .ptr 1 0), (8, .d (.sl 2 (l.map encL))), (9, int l.length), (10, int i.1)])
    (fun _ => [.box [.d (.lit (.int .u8 k.toNat)), .d (.sl 2 (l.map encL)), .d (.lit (.int .i64 p1)), .d (.lit (.int .i64 p2)), .d (.sl 3 (s.map encA))], .box [.d (.lit (.int .u8 0)), nilS, int 0, int 0, nilS]]) (fun i => l.length - i.1) ⟨0, by omega, by omega, by simp⟩ [] [0, 1] ?_ (fun ⟨i, hi, h12, hall⟩ => ?_)
  · exact ⟨rfl, rfl, by simp, (fun i hi => absurd hi (Nat.not_lt_zero _)), ⟨.inr rfl, .inr rfl, .inr rfl, .inr rfl, .inr rfl, trivial⟩, ⟨.inr ⟨by decide, rfl⟩, .inr ⟨by decide, rfl⟩, trivial⟩, rfl, by decide, rfl, (by first | rfl | simp [scRow, tkC_scs])⟩
  have hend : ∀ (hs : i = 12 ∨ i = l.length ∨ ∃ x, l[i]? = some x ∧ okL x = false), List.take i (List.map encL l) = (fewL l).map encL := fun hs => by rw [fewL_at l i h12 hall hs, List.map_take]
  rcases Nat.lt_or_ge i l.length with hlt | hge
  case' inr =>
    have hlt2 : ¬ ((i : Int) < l.length) := by omega
    have hi' : i = l.length := by omega
    have e : fewL l = l := by rw [fewL_at l i h12 hall (.inr (.inl hi')), hi', List.take_length]
    have e2 : l.map encL = (fewL l).map encL := by rw [e]
    simp only [int, nilS, hlt2, am, simprocAttr, tys]
    rw [e2]
  case' inl =>
    have hb : l[i]? = some l[i] := List.getElem?_eq_getElem hlt
    have hlt2 : ((i : Int) < l.length) := by omega
    have e1 : IntKind.i64.wrap ((i : Int) + 1) = ((i + 1 : Nat) : Int) := by rw [IntWalk.i64_in _ (by omega)]; simp
    have hle : ((i : Int) ≤ l.length) := by omega
    have hle0 : ((0 : Int) ≤ (i : Int)) := by omega
    rcases hg : decide (i < 12 ∧ l[i].1.length ≤ 100 ∧ l[i].2.1.length ≤ 100) with _ | _
    case' true =>
      obtain ⟨q1, q2, q3⟩ := of_decide_eq_true hg
      have g1 : ¬ ((12 : Int) ≤ i) := by omega
      have g2 : ¬ ((100 : Int) < l[i].1.length) := by omega
      have g3 : ¬ ((100 : Int) < l[i].2.1.length) := by omega
      simp only [int, nilS, hb, hlt2, encL, g1, g2, g3, e1, bl_size, Int.natCast_nonneg, hle, am, simprocAttr, tys]
      refine ⟨⟨i + 1, by omega, by omega, fun x hx' => ?_⟩, [], [0, 1], ⟨rfl, rfl, by simp, (fun i hi => absurd hi (Nat.not_lt_zero _)), ⟨.inr rfl, .inr rfl, .inr rfl, .inr rfl, .inr rfl, trivial⟩, ⟨.inr ⟨by decide, rfl⟩, .inr ⟨by decide, rfl⟩, trivial⟩, rfl, by decide, rfl, (by first | rfl | simp [scRow, tkC_scs])⟩, by show l.length - (i + 1) < l.length - i; omega⟩
      rw [List.take_succ_eq_append_getElem hlt] at hx'
      rcases List.mem_append.1 hx' with h | h
      · exact hall x h
      · simp at h; subst h; simp [okL]; omega
    case' false =>
      have hg' := of_decide_eq_false hg
      have hcase : ((12 : Int) ≤ i ∧ i = 12) ∨ (¬ ((12 : Int) ≤ i) ∧ ((100 : Int) < l[i].1.length) ∧ okL l[i] = false) ∨ (¬ ((12 : Int) ≤ i) ∧ ¬ ((100 : Int) < l[i].1.length) ∧ ((100 : Int) < l[i].2.1.length) ∧ okL l[i] = false) := by
        rcases Nat.lt_or_ge i 12 with a | a
        · right
          rcases Nat.lt_or_ge 100 l[i].1.length with b | b
          · left; exact ⟨by omega, by omega, by simp [okL]; omega⟩
          · right; exact ⟨by omega, by omega, by omega, by simp [okL]; omega⟩
        · left; omega
      rcases hcase with ⟨g1, hs⟩ | ⟨g1, g2, hs⟩ | ⟨g1, g2, g3, hs⟩
      case' inl =>
        have hE := hend (.inl hs)
        simp only [int, nilS, hb, hlt2, encL, g1, hle, hle0, hE, bl_size, Int.natCast_nonneg, Int.toNat_natCast, List.drop_zero, am, simprocAttr, tys]
      case' inr.inl =>
        have hE := hend (.inr (.inr ⟨l[i], hb, hs⟩))
        simp only [int, nilS, hb, hlt2, encL, g1, g2, hle, hle0, hE, bl_size, Int.natCast_nonneg, Int.toNat_natCast, List.drop_zero, am, simprocAttr, tys]
      case' inr.inr =>
        have hE := hend (.inr (.inr ⟨l[i], hb, hs⟩))
        simp only [int, nilS, hb, hlt2, encL, g1, g2, g3, hle, hle0, hE, bl_size, Int.natCast_nonneg, Int.toNat_natCast, List.drop_zero, am, simprocAttr, tys]
  all_goals
    clear hi h12 hall hend
    generalize (fewL l) = L
    refine ALoopW.intro 64 0 (ι := { i : Nat // i ≤ s.length ∧ i ≤ 12 ∧ ∀ x ∈ s.take i, okA x = true }) (fun i => [(1, .ptr 0 0), (2, .ptr 1 0), (36, .d (.sl 3 (s.map encA))), (37, int s.length), (38, int i.1)])
      (fun _ => [.box [.d (.lit (.int .u8 k.toNat)), .d (.sl 2 (L.map encL)), .d (.lit (.int .i64 p1)), .d (.lit (.int .i64 p2)), .d (.sl 3 (s.map encA))], .box [.d (.lit (.int .u8 0)), nilS, int 0, int 0, nilS]]) (fun i => s.length - i.1) ⟨0, by omega, by omega, by simp⟩ [] [0, 1] ?_ (fun ⟨i, hi, h12, hall⟩ => ?_)
    · exact ⟨rfl, rfl, by simp, (fun i hi => absurd hi (Nat.not_lt_zero _)), ⟨.inr rfl, .inr rfl, .inr rfl, .inr rfl, .inr rfl, trivial⟩, ⟨.inr ⟨by decide, rfl⟩, .inr ⟨by decide, rfl⟩, trivial⟩, rfl, by decide, rfl, (by first | rfl | simp [scRow, tkC_scs])⟩
    have hend : ∀ (hs : i = 12 ∨ i = s.length ∨ ∃ x, s[i]? = some x ∧ okA x = false), List.take i (List.map encA s) = (someA s).map encA := fun hs => by rw [someA_at s i h12 hall hs, List.map_take]
    rcases Nat.lt_or_ge i s.length with hlt | hge
    · have hb : s[i]? = some s[i] := List.getElem?_eq_getElem hlt
      have hlt2 : ((i : Int) < s.length) := by omega
      have e1 : IntKind.i64.wrap ((i : Int) + 1) = ((i + 1 : Nat) : Int) := by rw [IntWalk.i64_in _ (by omega)]; simp
      have hle : ((i : Int) ≤ s.length) := by omega
      have hle0 : ((0 : Int) ≤ (i : Int)) := by omega
      rcases Nat.lt_or_ge i 12 with a | a
      · have g1 : ¬ ((12 : Int) ≤ i) := by omega
        rcases Nat.lt_or_ge 100 s[i].2.1.length with b | b
        · have g2 : ((100 : Int) < s[i].2.1.length) := by omega
          have hE := hend (.inr (.inr ⟨s[i], hb, by simp [okA]; omega⟩))
          simp only [int, nilS, hb, hlt2, encA, g1, g2, hle, hle0, hE, bl_size, Int.natCast_nonneg, Int.toNat_natCast, List.drop_zero, FinR, evRes, evRVs, evRV, am, simprocAttr, tys]
          exact ⟨_, [], [], rfl, Ent.plain rfl rfl rfl trivial rfl, rfl, rfl⟩
        · have g2 : ¬ ((100 : Int) < s[i].2.1.length) := by omega
          rcases Nat.lt_or_ge 100 s[i].2.2.1.length with c | c
          · have g3 : ((100 : Int) < s[i].2.2.1.length) := by omega
            have hE := hend (.inr (.inr ⟨s[i], hb, by simp [okA]; omega⟩))
            simp only [int, nilS, hb, hlt2, encA, g1, g2, g3, hle, hle0, hE, bl_size, Int.natCast_nonneg, Int.toNat_natCast, List.drop_zero, FinR, evRes, evRVs, evRV, am, simprocAttr, tys]
            exact ⟨_, [], [], rfl, Ent.plain rfl rfl rfl trivial rfl, rfl, rfl⟩
          · have g3 : ¬ ((100 : Int) < s[i].2.2.1.length) := by omega
            simp only [int, nilS, hb, hlt2, encA, g1, g2, g3, e1, bl_size, Int.natCast_nonneg, hle, am, simprocAttr, tys]
            refine ⟨⟨i + 1, by omega, by omega, fun x hx' => ?_⟩, [], [0, 1], ⟨rfl, rfl, by simp, (fun i hi => absurd hi (Nat.not_lt_zero _)), ⟨.inr rfl, .inr rfl, .inr rfl, .inr rfl, .inr rfl, trivial⟩, ⟨.inr ⟨by decide, rfl⟩, .inr ⟨by decide, rfl⟩, trivial⟩, rfl, by decide, rfl, (by first | rfl | simp [scRow, tkC_scs])⟩, by show s.length - (i + 1) < s.length - i; omega⟩
            rw [List.take_succ_eq_append_getElem hlt] at hx'
            rcases List.mem_append.1 hx' with h | h
            · exact hall x h
            · simp at h; subst h; simp [okA]; omega
      · have g1 : ((12 : Int) ≤ i) := by omega
        have hE := hend (.inl (by omega))
        simp only [int, nilS, hb, hlt2, encA, g1, hle, hle0, hE, bl_size, Int.natCast_nonneg, Int.toNat_natCast, List.drop_zero, FinR, evRes, evRVs, evRV, am, simprocAttr, tys]
        exact ⟨_, [], [], rfl, Ent.plain rfl rfl rfl trivial rfl, rfl, rfl⟩
    · have hlt2 : ¬ ((i : Int) < s.length) := by omega
      have hi' : i = s.length := by omega
      have e : someA s = s := by rw [someA_at s i h12 hall (.inr (.inl hi')), hi', List.take_length]
      rw [e]
      simp only [int, nilS, hlt2, FinR, evRes, evRVs, evRV, am, simprocAttr, tys]
      exact ⟨_, [], [], rfl, Ent.plain rfl rfl rfl trivial rfl, rfl, rfl⟩
end Go.Proofs.Ytkadildabhkocaa
