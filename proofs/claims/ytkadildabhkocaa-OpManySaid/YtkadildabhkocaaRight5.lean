/- Proved here: what functions of the program compute, and plain laws. No condition. -/
import Derived.Test.YtkadildabhkocaaOrd
import Derived.Test.YtkadildabhkocaaRName
import Derived.Test.YtkadildabhkocaaGet
set_option linter.unusedSimpArgs false
set_option linter.unusedVariables false
namespace Go.Proofs.Ytkadildabhkocaa
open Go Go.AM

/-! ## labels that tell a series -/
def valOk (v : List UInt8) : Bool := decide (1 ≤ v.length) && decide (v.length ≤ 64)
def prevOk (l : List Lab) (i : Nat) (n : List UInt8) : Bool := match i with | 0 => true | j + 1 => match l[j]? with | some y => lt y.1 n | none => true
def okAt (l : List Lab) (i : Nat) : Bool := match l[i]? with
  | none => true
  | some x => nameOk x.1 && valOk x.2.1 && prevOk l i x.1
def rightL (l : List Lab) : Bool := (List.range l.length).all (okAt l) && (decide (1 ≤ l.length) && decide (l.length ≤ 6))

theorem rightL_iff (l : List Lab) : rightL l = true ↔ (∀ i, i < l.length → okAt l i = true) ∧ 1 ≤ l.length ∧ l.length ≤ 6 := by
  unfold rightL
  simp [List.all_eq_true]
theorem rightL_not (l : List Lab) (i : Nat) (hi : i < l.length) (h : okAt l i = false) : rightL l = false := by
  rcases hr : rightL l with _ | _
  · rfl
  · have := ((rightL_iff l).1 hr).1 i hi
    rw [h] at this; cases this
theorem rightL_of (l : List Lab) (h : ∀ i, i < l.length → okAt l i = true) : rightL l = (decide (1 ≤ l.length) && decide (l.length ≤ 6)) := by
  unfold rightL
  have : (List.range l.length).all (okAt l) = true := by
    rw [List.all_eq_true]; intro i hi; exact h i (List.mem_range.1 hi)
  rw [this, Bool.true_and]
theorem okAt_get (l : List Lab) (i : Nat) (hi : i < l.length) : okAt l i = (nameOk l[i].1 && valOk l[i].2.1 && prevOk l i l[i].1) := by
  unfold okAt
  rw [List.getElem?_eq_getElem hi]
def lastN (l : List Lab) (i : Nat) : List UInt8 := match i with | 0 => [] | j + 1 => match l[j]? with | some y => y.1 | none => []
theorem nameOk_len {s : List UInt8} (h : nameOk s = true) : 1 ≤ s.length ∧ s.length ≤ 16 := by
  unfold nameOk at h
  simp only [Bool.and_eq_true, decide_eq_true_eq] at h
  exact h.1.1
theorem okAt_last (l : List Lab) (i : Nat) (hi : i < l.length) (hn : nameOk l[i].1 = true) : okAt l i = (valOk l[i].2.1 && lt (lastN l i) l[i].1) := by
  rw [okAt_get l i hi, hn, Bool.true_and]
  congr 1
  cases i with
  | zero => simp only [lastN, prevOk]; exact (lt_nil _ (nameOk_len hn).1).symm
  | succ j =>
    have hj : l[j]? = some l[j] := List.getElem?_eq_getElem (by omega)
    simp only [lastN, prevOk, hj]

theorem withinL (l : List Lab) (m : Int) : AFun Try.prog 48 [.d (.sl 2 (l.map encL)), int m] [] (bool (decide (1 ≤ l.length) && decide ((l.length : Int) ≤ m))) [] := by
  refine AFun.of_walk hP Try.func48 rfl rfl rfl (by simp) rfl ?_
  have e : decide (1 ≤ l.length) = decide ((1 : Int) ≤ l.length) := by rw [decide_eq_decide]; omega
  rw [e]
  rcases h1 : decide ((1 : Int) ≤ l.length) with _ | _ <;>
    (simp only [Try.f48, int, bool, h1, FinR, evRes, evRVs, evRV, am, simprocAttr, tys]; exact ⟨_, [], [], rfl, Ent.plain rfl rfl rfl trivial rfl, rfl, rfl⟩)

theorem labelRight (l : List Lab) (hl : l.length ≤ 9223372036854775807) (hx : ∀ x ∈ l, x.1.length ≤ 9223372036854775807 ∧ x.2.1.length ≤ 9223372036854775807) :
    AFun Try.prog 25 [.d (.sl 2 (l.map encL))] [] (bool (rightL l)) [] := by
  refine AFun.of_walk hP Try.func25 rfl rfl rfl (by simp) rfl ?_
  simp only [Try.f25, am, simprocAttr, tys]
  refine ALoopW.intro 33 0 (ι := { i : Nat // i ≤ l.length ∧ ∀ j, j < i → okAt l j = true }) (fun i => [(0, .d (.sl 2 (l.map encL))), (3, str (lastN l i.1)), (6, .d (.sl 2 (l.map encL))), (7, int l.length), (8, int i.1)]) (fun _ => []) (fun i => l.length - i.1) ⟨0, by omega, by intro j hj; omega⟩ [] [] ?_ (fun ⟨i, hi, hall⟩ => ?_)
  · exact Ent.plain rfl rfl rfl (⟨.inr rfl, .inr rfl, .inr rfl, .inr rfl, .inr rfl, trivial⟩) rfl
  rcases Nat.lt_or_ge i l.length with hlt | hge
  · have hb : l[i]? = some l[i] := List.getElem?_eq_getElem hlt
    have hlt2 : ((i : Int) < l.length) := by omega
    have e1 : IntKind.i64.wrap ((i : Int) + 1) = ((i + 1 : Nat) : Int) := by rw [IntWalk.i64_in _ (by omega)]; simp
    obtain ⟨x1, x2⟩ := hx l[i] (List.getElem_mem hlt)
    have hcont : okAt l i = true → ∀ j, j < i + 1 → okAt l j = true := fun h j hj => by
      rcases Nat.lt_or_ge j i with hj' | hj'
      · exact hall j hj'
      · have : j = i := by omega
        subst this; exact h
    have hlast : lastN l (i + 1) = l[i].1 := by simp only [lastN, hb]
    have hw := within l[i].2.1 64 x2
    have e64 : decide ((l[i].2.1.length : Int) ≤ 64) = decide (l[i].2.1.length ≤ 64) := by rw [decide_eq_decide]; omega
    rw [e64] at hw
    have hv : (decide (1 ≤ l[i].2.1.length) && decide (l[i].2.1.length ≤ 64)) = valOk l[i].2.1 := rfl
    rw [hv] at hw
    simp only [int, str, hb, hlt2, encL, Int.natCast_nonneg, am, simprocAttr, tys]
    refine ACall.of (labelName l[i].1 x1) [] [] rfl (by simp) (by simp) (by simp) (by repeat' (first | exact trivial | exact .inl rfl | exact .inr rfl | exact .inr ⟨rfl, by simp⟩ | exact .inr ⟨rfl, rfl, by simp⟩ | apply And.intro)) (by repeat' (first | exact trivial | rfl | exact (tkC_ren.1 _ _).symm | (simp; done) | apply And.intro)) (by first | exact .inl rfl | (refine .inr ⟨trivial, ?_⟩; first | (intro row h; rcases List.mem_singleton.1 h with rfl; exact nvB _) | (intro row h; cases h; done) | (simp; done)) | (refine .inr ⟨by simp [nvP, nvP.nvPs, nvD, nilS, errno], ?_⟩; first | (intro row h; rcases List.mem_singleton.1 h with rfl; exact nvB _) | (intro row h; cases h; done) | (simp [nvRow, nvD, nvP]; done))) ?_
    rcases hn : nameOk l[i].1 with _ | _
    · have hr := rightL_not l i hlt (by rw [okAt_get l i hlt, hn]; rfl)
      simp only [bool, hr, FinR, evRes, evRVs, evRV, am, simprocAttr, tys]
      exact ⟨_, [], [], rfl, Ent.plain rfl rfl rfl trivial rfl, rfl, rfl⟩
    · have ho := okAt_last l i hlt hn
      simp only [bool, am, simprocAttr, tys]
      refine ACall.of (hw) [] [] rfl (by simp) (by simp) (by simp) (by repeat' (first | exact trivial | exact .inl rfl | exact .inr rfl | exact .inr ⟨rfl, by simp⟩ | exact .inr ⟨rfl, rfl, by simp⟩ | apply And.intro)) (by repeat' (first | exact trivial | rfl | exact (tkC_ren.1 _ _).symm | (simp; done) | apply And.intro)) (by first | exact .inl rfl | (refine .inr ⟨trivial, ?_⟩; first | (intro row h; rcases List.mem_singleton.1 h with rfl; exact nvB _) | (intro row h; cases h; done) | (simp; done)) | (refine .inr ⟨by simp [nvP, nvP.nvPs, nvD, nilS, errno], ?_⟩; first | (intro row h; rcases List.mem_singleton.1 h with rfl; exact nvB _) | (intro row h; cases h; done) | (simp [nvRow, nvD, nvP]; done))) ?_
      rcases hvo : valOk l[i].2.1 with _ | _
      · have hr := rightL_not l i hlt (by rw [ho, hvo]; rfl)
        simp only [bool, hr, FinR, evRes, evRVs, evRV, am, simprocAttr, tys]
        exact ⟨_, [], [], rfl, Ent.plain rfl rfl rfl trivial rfl, rfl, rfl⟩
      · have hle := not_le l[i].1 (lastN l i)
        have hle' : (Op.bytesLess l[i].1 (lastN l i) || l[i].1 == lastN l i) = !(lt (lastN l i) l[i].1) := hle
        rcases hlt3 : lt (lastN l i) l[i].1 with _ | _
        · rw [hlt3] at hle'
          have hr := rightL_not l i hlt (by rw [ho, hvo, hlt3]; rfl)
          simp only [bool, hr, bl_toList, hle', FinR, evRes, evRVs, evRV, am, simprocAttr, tys]
          exact ⟨_, [], [], rfl, Ent.plain rfl rfl rfl trivial rfl, rfl, rfl⟩
        · rw [hlt3] at hle'
          have hc := hcont (by rw [ho, hvo, hlt3]; rfl)
          simp only [bool, bl_toList, hle', e1, am, simprocAttr, tys]
          refine ⟨⟨i + 1, by omega, hc⟩, [], [], Ent.plain rfl rfl rfl (⟨.inr ?_, .inr ?_, .inr ?_, .inr ?_, .inr ?_, trivial⟩) rfl, by show l.length - (i + 1) < l.length - i; omega⟩
          · rfl
          · exact congrArg str hlast.symm
          · rfl
          · rfl
          · rfl
  · have hlt2 : ¬ ((i : Int) < l.length) := by omega
    have hr := rightL_of l (fun j hj => hall j (by omega))
    have e6 : decide ((l.length : Int) ≤ 6) = decide (l.length ≤ 6) := by rw [decide_eq_decide]; omega
    have hw := withinL l 6
    rw [e6, ← hr] at hw
    simp only [int, hlt2, am, simprocAttr, tys]
    refine ACall.of (hw) [] [] rfl (by simp) (by simp) (by simp) (by repeat' (first | exact trivial | exact .inl rfl | exact .inr rfl | exact .inr ⟨rfl, by simp⟩ | exact .inr ⟨rfl, rfl, by simp⟩ | apply And.intro)) (by repeat' (first | exact trivial | rfl | exact (tkC_ren.1 _ _).symm | (simp; done) | apply And.intro)) (by first | exact .inl rfl | (refine .inr ⟨trivial, ?_⟩; first | (intro row h; rcases List.mem_singleton.1 h with rfl; exact nvB _) | (intro row h; cases h; done) | (simp; done)) | (refine .inr ⟨by simp [nvP, nvP.nvPs, nvD, nilS, errno], ?_⟩; first | (intro row h; rcases List.mem_singleton.1 h with rfl; exact nvB _) | (intro row h; cases h; done) | (simp [nvRow, nvD, nvP]; done))) ?_
    simp only [bool, FinR, evRes, evRVs, evRV, am, simprocAttr, tys]
    exact ⟨_, [], [], rfl, Ent.plain rfl rfl rfl trivial rfl, rfl, rfl⟩

set_option maxRecDepth 8000 in
theorem refRight5 (l : List Lab) (hl : l.length ≤ 9223372036854775807) (hx : ∀ x ∈ l, x.1.length ≤ 9223372036854775807 ∧ x.2.1.length ≤ 9223372036854775807) :
    AFun Try.prog 27 [.d (.sl 2 (l.map encL))] [] (bool (rightL l)) [] := by
  refine AFun.of_walk hP Try.func27 rfl rfl rfl (by simp) rfl ?_
  simp only [Try.f27, am, simprocAttr, tys]
  refine ALoopW.intro 61 0 (ι := { i : Nat // i ≤ l.length ∧ ∀ j, j < i → okAt l j = true }) (fun i => [(0, .d (.sl 2 (l.map encL))), (3, int i.1)]) (fun _ => []) (fun i => l.length - i.1) ⟨0, by omega, by intro j hj; omega⟩ [] [] ?_ (fun ⟨i, hi, hall⟩ => ?_)
  · exact Ent.plain rfl rfl rfl (⟨.inr rfl, .inr rfl, trivial⟩) rfl
  rcases Nat.lt_or_ge i l.length with hlt | hge
  · have hb : l[i]? = some l[i] := List.getElem?_eq_getElem hlt
    have hlt2 : ((i : Int) < l.length) := by omega
    have e1 : IntKind.i64.wrap ((i : Int) + 1) = ((i + 1 : Nat) : Int) := by rw [IntWalk.i64_in _ (by omega)]; simp
    obtain ⟨x1, x2⟩ := hx l[i] (List.getElem_mem hlt)
    have hcont : okAt l i = true → ∀ j, j < i + 1 → okAt l j = true := fun h j hj => by
      rcases Nat.lt_or_ge j i with hj' | hj'
      · exact hall j hj'
      · have : j = i := by omega
        subst this; exact h
    simp only [int, hb, hlt2, encL, Int.natCast_nonneg, am, simprocAttr, tys]
    refine ACallD.of (refName l[i].1 x1) (by kernel_rfl) [] [] rfl (by simp) (by simp) (by simp) (by simp) (by repeat' (first | exact trivial | exact .inl rfl | exact .inr rfl | exact .inr ⟨rfl, by simp⟩ | exact .inr ⟨rfl, rfl, by simp⟩ | apply And.intro)) (by repeat' (first | exact trivial | rfl | exact (tkC_ren.1 _ _).symm | (simp; done) | apply And.intro)) (by first | exact .inl rfl | (refine .inr ⟨trivial, ?_⟩; first | (intro row h; rcases List.mem_singleton.1 h with rfl; exact nvB _) | (intro row h; cases h; done) | (simp; done)) | (refine .inr ⟨by simp [nvP, nvP.nvPs, nvD, nilS, errno], ?_⟩; first | (intro row h; rcases List.mem_singleton.1 h with rfl; exact nvB _) | (intro row h; cases h; done) | (simp [nvRow, nvD, nvP]; done))) rfl rfl rfl rfl ?_
    rcases hn : nameOk l[i].1 with _ | _
    · have hr := rightL_not l i hlt (by rw [okAt_get l i hlt, hn]; rfl)
      simp only [bool, hr, FinR, evRes, evRVs, evRV, am, simprocAttr, tys]
      exact ⟨by kernel_rfl, ⟨_, [], [], rfl, Ent.plain rfl rfl rfl trivial rfl, rfl, rfl⟩⟩
    · have ho := okAt_last l i hlt hn
      rcases Nat.lt_or_ge l[i].2.1.length 1 with hv1 | hv1
      · have hI : ((l[i].2.1.length : Int) < 1) := by omega
        have hr := rightL_not l i hlt (by rw [ho]; unfold valOk; rw [decide_eq_false (show ¬ 1 ≤ l[i].2.1.length by omega)]; rfl)
        simp only [bool, bl_size, hb, hlt2, encL, Int.natCast_nonneg, hI, hr, FinR, evRes, evRVs, evRV, am, simprocAttr, tys]
        exact ⟨by kernel_rfl, ⟨_, [], [], rfl, Ent.plain rfl rfl rfl trivial rfl, rfl, rfl⟩⟩
      · have hI : ¬ ((l[i].2.1.length : Int) < 1) := by omega
        rcases Nat.lt_or_ge 64 l[i].2.1.length with hv2 | hv2
        · have hI2 : ((64 : Int) < (l[i].2.1.length : Int)) := by omega
          have hr := rightL_not l i hlt (by rw [ho]; unfold valOk; rw [decide_eq_false (show ¬ l[i].2.1.length ≤ 64 by omega), Bool.and_false]; rfl)
          simp only [bool, bl_size, hb, hlt2, encL, Int.natCast_nonneg, hI, hI2, hr, FinR, evRes, evRVs, evRV, am, simprocAttr, tys]
          exact ⟨by kernel_rfl, ⟨_, [], [], rfl, Ent.plain rfl rfl rfl trivial rfl, rfl, rfl⟩⟩
        · have hI2 : ¬ ((64 : Int) < (l[i].2.1.length : Int)) := by omega
          have hvo : valOk l[i].2.1 = true := by unfold valOk; rw [decide_eq_true hv1, decide_eq_true hv2]; rfl
          rw [hvo, Bool.true_and] at ho
          rcases Nat.eq_zero_or_pos i with h0 | h0
          · have h0I : ¬ ((0 : Int) < (i : Int)) := by omega
            have hc := hcont (by rw [ho]; subst h0; exact lt_nil _ (nameOk_len hn).1)
            simp only [bool, bl_size, hb, hlt2, encL, Int.natCast_nonneg, hI, hI2, h0I, e1, am, simprocAttr, tys]
            exact ⟨by kernel_rfl, ⟨i + 1, by omega, hc⟩, [], [], Ent.plain rfl rfl rfl (⟨.inr rfl, .inr rfl, trivial⟩) rfl, by show l.length - (i + 1) < l.length - i; omega⟩
          · have h0I : ((0 : Int) < (i : Int)) := by omega
            have e2 : IntKind.i64.wrap ((i : Int) - 1) = ((i - 1 : Nat) : Int) := by rw [IntWalk.i64_in _ (by omega)]; omega
            have hlt4 : (((i - 1 : Nat) : Int) < (l.length : Int)) := by omega
            have hlti : i - 1 < l.length := by omega
            have hb2 : l[i - 1]? = some l[i - 1] := List.getElem?_eq_getElem hlti
            have hla : lastN l i = l[i - 1].1 := by
              obtain ⟨k, rfl⟩ : ∃ k, i = k + 1 := ⟨i - 1, by omega⟩
              simp only [lastN]
              have : l[k]? = some l[k] := List.getElem?_eq_getElem (by omega)
              rw [this]; rfl
            rw [hla] at ho
            have hle' : (Op.bytesLess l[i].1 l[i - 1].1 || l[i].1 == l[i - 1].1) = !(lt l[i - 1].1 l[i].1) := not_le l[i].1 l[i - 1].1
            rcases hlt3 : lt l[i - 1].1 l[i].1 with _ | _
            · rw [hlt3] at hle'
              have hr := rightL_not l i hlt (by rw [ho, hlt3])
              simp only [bool, bl_size, bl_toList, hb, hb2, hlt2, hlt4, encL, hI, hI2, h0I, e2, hr, hle', Int.natCast_nonneg, FinR, evRes, evRVs, evRV, am, simprocAttr, tys]
              exact ⟨by kernel_rfl, ⟨_, [], [], rfl, Ent.plain rfl rfl rfl trivial rfl, rfl, rfl⟩⟩
            · rw [hlt3] at hle'
              have hc := hcont (by rw [ho, hlt3])
              simp only [bool, bl_size, bl_toList, hb, hb2, hlt2, hlt4, encL, hI, hI2, h0I, e1, e2, hle', Int.natCast_nonneg, am, simprocAttr, tys]
              exact ⟨by kernel_rfl, ⟨i + 1, by omega, hc⟩, [], [], Ent.plain rfl rfl rfl (⟨.inr rfl, .inr rfl, trivial⟩) rfl, by show l.length - (i + 1) < l.length - i; omega⟩
  · have hlt2 : ¬ ((i : Int) < l.length) := by omega
    have hr := rightL_of l (fun j hj => hall j (by omega))
    have e6 : decide (l.length ≤ 6) = decide ((l.length : Int) ≤ 6) := by rw [decide_eq_decide]; omega
    have e1' : decide (1 ≤ l.length) = decide ((1 : Int) ≤ (l.length : Int)) := by rw [decide_eq_decide]; omega
    rw [e6, e1'] at hr
    rcases h1 : decide ((1 : Int) ≤ (l.length : Int)) with _ | _
    · rw [h1] at hr
      simp only [int, bool, hlt2, h1, hr, FinR, evRes, evRVs, evRV, am, simprocAttr, tys]
      exact ⟨_, [], [], rfl, Ent.plain rfl rfl rfl trivial rfl, rfl, rfl⟩
    · rw [h1] at hr
      simp only [int, bool, hlt2, h1, hr, FinR, evRes, evRVs, evRV, am, simprocAttr, tys]
      exact ⟨_, [], [], rfl, Ent.plain rfl rfl rfl trivial rfl, rfl, rfl⟩
end Go.Proofs.Ytkadildabhkocaa
