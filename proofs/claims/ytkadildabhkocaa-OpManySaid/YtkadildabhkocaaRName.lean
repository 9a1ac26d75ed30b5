/- Proved here: what functions of the program compute, and plain laws. No condition. -/
import Derived.Test.YtkadildabhkocaaName
set_option linter.unusedSimpArgs false
set_option linter.unusedVariables false
namespace Go.Proofs.Ytkadildabhkocaa
open Go Go.AM

def digB (b : UInt8) : Bool := decide (48 ≤ b.toNat) && decide (b.toNat ≤ 57)
theorem badR_eq (b : UInt8) : badR b.toNat = !(letB b || digB b || b.toNat == 95) := by
  unfold badR letB digB
  rw [Bool.eq_iff_iff]
  simp [bne]
  omega

def passB (s : List UInt8) (j : Nat) : Bool := match s[j]? with | some b => letB b || (decide (j ≠ 0) && (digB b || b.toNat == 95)) | none => true

theorem nameOk_of (s : List UInt8) (h : ∀ j, j < s.length → passB s j = true) : nameOk s = (decide (1 ≤ s.length) && decide (s.length ≤ 16)) := by
  unfold nameOk
  cases s with
  | nil => simp
  | cons b t =>
    have h0 := h 0 (by simp)
    have hl : letB b = true := by simpa [passB] using h0
    have ha : ((b :: t).any fun b => badR b.toNat) = false := by
      rw [List.any_eq_false]
      intro x hx
      obtain ⟨j, hj, rfl⟩ := List.getElem_of_mem hx
      have := h j hj
      unfold passB at this
      rw [List.getElem?_eq_getElem hj] at this
      simp only at this
      rw [badR_eq]
      simp only [Bool.or_eq_true, Bool.and_eq_true] at this
      rcases this with h | ⟨_, h⟩
      · simp [h]
      · rcases h with h | h <;> simp [h]
    simp only [List.headD_cons, hl, ha, Bool.not_false, Bool.and_true]

theorem nameOk_not (s : List UInt8) (j : Nat) (hj : j < s.length) (h : passB s j = false) : nameOk s = false := by
  unfold passB at h
  rw [List.getElem?_eq_getElem hj] at h
  simp only [Bool.or_eq_false_iff] at h
  unfold nameOk
  by_cases h0 : j = 0
  · subst h0
    have : s.headD 0 = s[0] := by cases s with | nil => simp at hj | cons b t => rfl
    rw [this, h.1]; simp
  · have h2 : (digB s[j] || s[j].toNat == 95) = false := by
      have := h.2
      simpa [h0] using this
    have hb : badR s[j].toNat = true := by
      rw [badR_eq, h.1, Bool.false_or, h2]; rfl
    have : (s.any fun b => badR b.toNat) = true := by
      rw [List.any_eq_true]; exact ⟨s[j], List.getElem_mem hj, hb⟩
    rw [this]; simp

theorem getD_get (s : List UInt8) (i : Nat) (h : i < s.length) : s.getD i 0 = s[i] := by simp [h]

set_option maxRecDepth 8000 in
set_option maxHeartbeats 4000000 in
theorem refName (s : List UInt8) (hl : s.length ≤ 9223372036854775807) : AFun Try.prog 52 [str s] [] (bool (nameOk s)) [] := by
  refine AFun.of_walk hP Try.func52 rfl rfl rfl (by simp) rfl ?_
  simp only [Try.f52, str, am, simprocAttr, tys]
  refine ALoopW.intro 56 0 (ι := { i : Nat // i ≤ s.length ∧ ∀ j, j < i → passB s j = true }) (fun i => [(0, .d (.lit (.string ⟨⟨s⟩⟩))), (3, .d (.lit (.int .i64 i.1)))]) (fun _ => []) (fun i => s.length - i.1) ⟨0, by omega, by intro j hj; omega⟩ [] [] ?_ (fun ⟨i, hi, hall⟩ => ?_)
  · exact Ent.plain rfl rfl rfl (⟨.inr rfl, .inr rfl, trivial⟩) rfl
  rcases Nat.lt_or_ge i s.length with hlt | hge
  · have hlt2 : ((i : Int) < s.length) := by omega
    have e1 : IntKind.i64.wrap ((i : Int) + 1) = ((i + 1 : Nat) : Int) := by rw [IntWalk.i64_in _ (by omega)]; simp
    have hp : passB s i = (letB s[i] || (decide (i ≠ 0) && (digB s[i] || s[i].toNat == 95))) := by
      unfold passB; rw [List.getElem?_eq_getElem hlt]
    have c1 : letB s[i] = (decide ((97 : Int) ≤ (s[i].toNat : Int)) && decide ((s[i].toNat : Int) ≤ 122)) := by
      unfold letB; rw [Bool.eq_iff_iff]; simp; omega
    have c2 : digB s[i] = (decide ((48 : Int) ≤ (s[i].toNat : Int)) && decide ((s[i].toNat : Int) ≤ 57)) := by
      unfold digB; rw [Bool.eq_iff_iff]; simp; omega
    have c3 : (s[i].toNat == 95) = !((s[i].toNat : Int) != 95) := by
      rw [Bool.eq_iff_iff]; simp; omega
    have c4 : decide (i ≠ 0) = !((i : Int) == 0) := by
      rw [Bool.eq_iff_iff]; simp
    rw [c1, c2, c3, c4] at hp
    have hcont : passB s i = true → ∀ j, j < i + 1 → passB s j = true := fun h j hj => by
      rcases Nat.lt_or_ge j i with hj' | hj'
      · exact hall j hj'
      · have : j = i := by omega
        subst this; exact h
    rcases g1 : decide ((97 : Int) ≤ (s[i].toNat : Int)) with _ | _ <;> rcases g2 : decide ((s[i].toNat : Int) ≤ 122) with _ | _ <;> rcases g3 : decide ((48 : Int) ≤ (s[i].toNat : Int)) with _ | _ <;> rcases g4 : decide ((s[i].toNat : Int) ≤ 57) with _ | _ <;> rcases g6 : ((i : Int) == 0) with _ | _ <;> rcases g5 : ((s[i].toNat : Int) != 95) with _ | _ <;>
      (rw [g1, g2, g3, g4, g5, g6] at hp
       simp only [am, simprocAttr, tys] at hp
       first
       | (have hn := nameOk_not s i hlt hp
          simp only [bl_size, hlt2, getD_get s i hlt, g1, g2, g3, g4, g5, g6, hn, bool, Int.natCast_nonneg, Int.toNat_natCast, FinR, evRes, evRVs, evRV, am, simprocAttr, tys]
          exact ⟨_, [], [], rfl, Ent.plain rfl rfl rfl trivial rfl, rfl, rfl⟩)
       | (have hn := hcont hp
          simp only [bl_size, hlt2, getD_get s i hlt, g1, g2, g3, g4, g5, g6, e1, Int.natCast_nonneg, Int.toNat_natCast, am, simprocAttr, tys]
          exact ⟨⟨i + 1, by omega, hn⟩, [], [], Ent.plain rfl rfl rfl (⟨.inr rfl, .inr rfl, trivial⟩) rfl, by show s.length - (i + 1) < s.length - i; omega⟩))
  · have hlt2 : ¬ ((i : Int) < s.length) := by omega
    have hn := nameOk_of s (fun j hj => hall j (by omega))
    have e : decide (1 ≤ s.length) = decide ((1 : Int) ≤ s.length) := by rw [decide_eq_decide]; omega
    have e' : decide (s.length ≤ 16) = decide ((s.length : Int) ≤ 16) := by rw [decide_eq_decide]; omega
    rw [e, e'] at hn
    rcases h1 : decide ((1 : Int) ≤ s.length) with _ | _
    · rw [h1] at hn
      simp only [bl_size, hlt2, h1, hn, bool, FinR, evRes, evRVs, evRV, am, simprocAttr, tys]
      exact ⟨_, [], [], rfl, Ent.plain rfl rfl rfl trivial rfl, rfl, rfl⟩
    · rw [h1] at hn
      simp only [bl_size, hlt2, h1, hn, bool, FinR, evRes, evRVs, evRV, am, simprocAttr, tys]
      exact ⟨_, [], [], rfl, Ent.plain rfl rfl rfl trivial rfl, rfl, rfl⟩
end Go.Proofs.Ytkadildabhkocaa
