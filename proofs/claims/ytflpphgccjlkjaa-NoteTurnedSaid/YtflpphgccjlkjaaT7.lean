/- Proved here: what the functions of the program compute. No condition. -/
import Derived.Test.YtflpphgccjlkjaaT6
import Derived.Test.YtflpphgccjlkjaaT4
import Derived.Test.YtflpphgccjlkjaaT1
import Derived.Test.YtflpphgccjlkjaaT2
set_option linter.all false
set_option linter.unusedSimpArgs false
set_option linter.unusedVariables false
set_option linter.unusedSimpArgs false
set_option linter.unusedVariables false
namespace Go.Proofs.Ytflpphgccjlkjaa
open Go Go.AM

theorem placeB_eq (n : Int) : placeB n = (!(decide (n < 0)) && !(decide (7 ≤ n))) := by
  unfold placeB
  rcases Int.lt_or_le n 0 with h | h
  · rw [decide_eq_false (by omega), decide_eq_true h]; rfl
  · rw [decide_eq_true h, decide_eq_false (by omega : ¬ n < 0)]
    rcases Int.lt_or_le n 7 with q | q
    · rw [decide_eq_true q, decide_eq_false (by omega : ¬ 7 ≤ n)]; rfl
    · rw [decide_eq_false (by omega), decide_eq_true q]; rfl
theorem fitsB_cons (a n : Int) (l : List Int) : fitsB a (n :: l) = (!(outB a n) && fitsB a l) := by simp [fitsB]
theorem fitsB_nil (a : Int) : fitsB a [] = true := rfl
def lvI (x : NT) : List Int := [x.l0, x.l1, x.l2, x.l3, x.l4, x.l5, x.l6]
theorem mayE_eq (e : EntT) : mayE e = (!(decide (e.1 < 0)) && (!(decide (8 ≤ e.1)) && (!(decide (e.2.1 < 1)) && (!(outB 0 e.2.1) && rightO e.2.2.1)))) := by
  unfold mayE
  rw [fitsB_cons, fitsB_nil, Bool.and_true]
  have h1 : decide (0 ≤ e.1) = !(decide (e.1 < 0)) := by
    rcases Int.lt_or_le e.1 0 with h | h
    · rw [decide_eq_false (by omega), decide_eq_true h]; rfl
    · rw [decide_eq_true h, decide_eq_false (by omega)]; rfl
  have h2 : decide (e.1 < 8) = !(decide (8 ≤ e.1)) := by
    rcases Int.lt_or_le e.1 8 with h | h
    · rw [decide_eq_true h, decide_eq_false (by omega)]; rfl
    · rw [decide_eq_false (by omega), decide_eq_true h]; rfl
  have h3 : (!(outB 1 e.2.1)) = (!(decide (e.2.1 < 1)) && !(outB 0 e.2.1)) := by
    unfold outB
    rcases Int.lt_or_le e.2.1 1 with h | h
    · rw [decide_eq_true h]; rfl
    · rw [decide_eq_false (by omega : ¬ e.2.1 < 1), decide_eq_false (by omega : ¬ e.2.1 < 0)]; rfl
  rw [h1, h2, h3, Bool.and_assoc]

set_option maxRecDepth 8000 in
set_option maxHeartbeats 4000000 in
theorem refNRight (x : NT) (h : FitN x) : AFun Try.prog 16 [.d (.agg (encN x))] [] (bool (rightN x)) [] := by
  refine AFun.of_walk hP Try.func16 rfl rfl rfl (by simp) rfl ?_
  unfold rightN headN numsN
  rw [placeB_eq, placeB_eq, fitsB_cons, fitsB_cons, fitsB_cons, fitsB_cons, fitsB_nil]
  rcases h1 : decide ((x.k.toNat : Int) < 1) with _ | _
  case' true =>
    simp only [Try.f16, encN, bool, h1, Bool.not_true, Bool.false_and, FinR, evRes, evRVs, evRV, am, simprocAttr, tys]
    exact ⟨_, [], [], rfl, Ent.plain rfl rfl rfl trivial rfl, rfl, rfl⟩
  rcases h2 : decide (6 < (x.k.toNat : Int)) with _ | _
  case' true =>
    simp only [Try.f16, encN, bool, h1, h2, Bool.not_true, Bool.not_false, Bool.true_and, Bool.false_and, FinR, evRes, evRVs, evRV, am, simprocAttr, tys]
    exact ⟨_, [], [], rfl, Ent.plain rfl rfl rfl trivial rfl, rfl, rfl⟩
  rcases h3 : decide (x.f < 0) with _ | _
  case' true =>
    simp only [Try.f16, encN, bool, h1, h2, h3, Bool.not_true, Bool.not_false, Bool.true_and, Bool.false_and, FinR, evRes, evRVs, evRV, am, simprocAttr, tys]
    exact ⟨_, [], [], rfl, Ent.plain rfl rfl rfl trivial rfl, rfl, rfl⟩
  rcases h4 : decide (7 ≤ x.f) with _ | _
  case' true =>
    simp only [Try.f16, encN, bool, h1, h2, h3, h4, Bool.not_true, Bool.not_false, Bool.true_and, Bool.false_and, FinR, evRes, evRVs, evRV, am, simprocAttr, tys]
    exact ⟨_, [], [], rfl, Ent.plain rfl rfl rfl trivial rfl, rfl, rfl⟩
  rcases h5 : decide (x.t < 0) with _ | _
  case' true =>
    simp only [Try.f16, encN, bool, h1, h2, h3, h4, h5, Bool.not_true, Bool.not_false, Bool.true_and, Bool.false_and, FinR, evRes, evRVs, evRV, am, simprocAttr, tys]
    exact ⟨_, [], [], rfl, Ent.plain rfl rfl rfl trivial rfl, rfl, rfl⟩
  rcases h6 : decide (7 ≤ x.t) with _ | _
  case' true =>
    simp only [Try.f16, encN, bool, h1, h2, h3, h4, h5, h6, Bool.not_true, Bool.not_false, Bool.true_and, Bool.false_and, FinR, evRes, evRVs, evRV, am, simprocAttr, tys]
    exact ⟨_, [], [], rfl, Ent.plain rfl rfl rfl trivial rfl, rfl, rfl⟩
  rcases h7 : x.f == x.t with _ | _
  case' true =>
    simp only [Try.f16, encN, bool, h1, h2, h3, h4, h5, h6, h7, Bool.not_true, Bool.not_false, Bool.true_and, Bool.false_and, FinR, evRes, evRVs, evRV, am, simprocAttr, tys]
    exact ⟨_, [], [], rfl, Ent.plain rfl rfl rfl trivial rfl, rfl, rfl⟩
  simp only [Try.f16, encN, h1, h2, h3, h4, h5, h6, h7, Bool.not_false, Bool.true_and, am, simprocAttr, tys]
  refine ACall.of (refFits x.v) [] [] rfl (by simp) (by simp) (by simp) (by repeat' (first | exact trivial | exact .inl rfl | exact .inr rfl | exact .inr ⟨rfl, rfl, rfl, by simp; done⟩ | exact .inr ⟨rfl, by simp; done⟩ | exact .inr ⟨rfl, rfl, by simp; done⟩ | apply And.intro)) (by repeat' (first | exact trivial | rfl | exact (tkC_ren.1 _ _).symm | (simp; done) | apply And.intro)) (by first | exact .inl rfl | (refine .inr ⟨trivial, ?_⟩; first | (intro row h; rcases List.mem_singleton.1 h with rfl; exact nvB _) | (intro row h; cases h; done) | (simp; done)) | (refine .inr ⟨by simp [nvP, nvP.nvPs, nvD, nilS, errno], ?_⟩; first | (intro row h; rcases List.mem_singleton.1 h with rfl; exact nvB _) | (intro row h; cases h; done) | (simp [nvRow, nvD, nvP]; done))) ?_
  rcases h8 : outB 0 x.v with _ | _
  case' true =>
    simp only [bool, Bool.not_true, Bool.false_and, FinR, evRes, evRVs, evRV, am, simprocAttr, tys]
    exact ⟨_, [], [], rfl, Ent.plain rfl rfl rfl trivial rfl, rfl, rfl⟩
  simp only [bool, Bool.not_false, Bool.true_and, am, simprocAttr, tys]
  refine ACall.of (refFits x.n) [] [] rfl (by simp) (by simp) (by simp) (by repeat' (first | exact trivial | exact .inl rfl | exact .inr rfl | exact .inr ⟨rfl, rfl, rfl, by simp; done⟩ | exact .inr ⟨rfl, by simp; done⟩ | exact .inr ⟨rfl, rfl, by simp; done⟩ | apply And.intro)) (by repeat' (first | exact trivial | rfl | exact (tkC_ren.1 _ _).symm | (simp; done) | apply And.intro)) (by first | exact .inl rfl | (refine .inr ⟨trivial, ?_⟩; first | (intro row h; rcases List.mem_singleton.1 h with rfl; exact nvB _) | (intro row h; cases h; done) | (simp; done)) | (refine .inr ⟨by simp [nvP, nvP.nvPs, nvD, nilS, errno], ?_⟩; first | (intro row h; rcases List.mem_singleton.1 h with rfl; exact nvB _) | (intro row h; cases h; done) | (simp [nvRow, nvD, nvP]; done))) ?_
  rcases h9 : outB 0 x.n with _ | _
  case' true =>
    simp only [bool, Bool.not_true, Bool.false_and, FinR, evRes, evRVs, evRV, am, simprocAttr, tys]
    exact ⟨_, [], [], rfl, Ent.plain rfl rfl rfl trivial rfl, rfl, rfl⟩
  simp only [bool, Bool.not_false, Bool.true_and, am, simprocAttr, tys]
  refine ACall.of (refFits x.i) [] [] rfl (by simp) (by simp) (by simp) (by repeat' (first | exact trivial | exact .inl rfl | exact .inr rfl | exact .inr ⟨rfl, rfl, rfl, by simp; done⟩ | exact .inr ⟨rfl, by simp; done⟩ | exact .inr ⟨rfl, rfl, by simp; done⟩ | apply And.intro)) (by repeat' (first | exact trivial | rfl | exact (tkC_ren.1 _ _).symm | (simp; done) | apply And.intro)) (by first | exact .inl rfl | (refine .inr ⟨trivial, ?_⟩; first | (intro row h; rcases List.mem_singleton.1 h with rfl; exact nvB _) | (intro row h; cases h; done) | (simp; done)) | (refine .inr ⟨by simp [nvP, nvP.nvPs, nvD, nilS, errno], ?_⟩; first | (intro row h; rcases List.mem_singleton.1 h with rfl; exact nvB _) | (intro row h; cases h; done) | (simp [nvRow, nvD, nvP]; done))) ?_
  rcases h10 : outB 0 x.i with _ | _
  case' true =>
    simp only [bool, Bool.not_true, Bool.false_and, FinR, evRes, evRVs, evRV, am, simprocAttr, tys]
    exact ⟨_, [], [], rfl, Ent.plain rfl rfl rfl trivial rfl, rfl, rfl⟩
  simp only [bool, Bool.not_false, Bool.true_and, am, simprocAttr, tys]
  refine ACall.of (refFits x.s) [] [] rfl (by simp) (by simp) (by simp) (by repeat' (first | exact trivial | exact .inl rfl | exact .inr rfl | exact .inr ⟨rfl, rfl, rfl, by simp; done⟩ | exact .inr ⟨rfl, by simp; done⟩ | exact .inr ⟨rfl, rfl, by simp; done⟩ | apply And.intro)) (by repeat' (first | exact trivial | rfl | exact (tkC_ren.1 _ _).symm | (simp; done) | apply And.intro)) (by first | exact .inl rfl | (refine .inr ⟨trivial, ?_⟩; first | (intro row h; rcases List.mem_singleton.1 h with rfl; exact nvB _) | (intro row h; cases h; done) | (simp; done)) | (refine .inr ⟨by simp [nvP, nvP.nvPs, nvD, nilS, errno], ?_⟩; first | (intro row h; rcases List.mem_singleton.1 h with rfl; exact nvB _) | (intro row h; cases h; done) | (simp [nvRow, nvD, nvP]; done))) ?_
  rcases h11 : outB 0 x.s with _ | _
  case' true =>
    simp only [bool, Bool.not_true, Bool.false_and, FinR, evRes, evRVs, evRV, am, simprocAttr, tys]
    exact ⟨_, [], [], rfl, Ent.plain rfl rfl rfl trivial rfl, rfl, rfl⟩
  rcases h12 : decide (300 < (x.log.length : Int)) with _ | _
  case' true =>
    simp only [bool, h12, Bool.not_true, Bool.not_false, Bool.true_and, Bool.false_and, Bool.and_false, FinR, evRes, evRVs, evRV, am, simprocAttr, tys]
    exact ⟨_, [], [], rfl, Ent.plain rfl rfl rfl trivial rfl, rfl, rfl⟩
  simp only [bool, h12, Bool.not_false, Bool.true_and, Bool.and_true, am, simprocAttr, tys]
  refine ALoopW.intro 118 0 (ι := { i : Nat // i ≤ 7 ∧ ((lvI x).take i).all (fun n => !(outB 0 n)) = true }) (fun i => [(1, .ptr 0 0), (3, int i.1)]) (fun _ => [.box ((encN x).map .d)]) (fun i => 7 - i.1) ⟨0, by omega, rfl⟩ [] [0] ?_ (fun ⟨i, hi, hall⟩ => ?_)
  · exact ⟨rfl, rfl, by simp, (fun i hi => absurd hi (Nat.not_lt_zero _)), ⟨.inr rfl, .inr rfl, trivial⟩, ⟨.inr ⟨by decide, rfl⟩, trivial⟩, rfl, by decide, rfl, (by first | rfl | simp [scRow, tkC_scs])⟩
  simp only
  rcases Nat.lt_or_ge i 7 with hlt | hge
  · have hfs : ∀ (j : Nat) (hj : j < (lvI x).length), outB 0 (lvI x)[j] = true → fitsB 0 [x.l0, x.l1, x.l2, x.l3, x.l4, x.l5, x.l6] = false := fun j hj ho => by
      unfold fitsB
      rw [Bool.not_eq_false', List.any_eq_true]
      exact ⟨_, List.getElem_mem hj, ho⟩
    have hnx : ∀ (j : Nat) (hj : j < (lvI x).length), outB 0 (lvI x)[j] = false → ((lvI x).take j).all (fun n => !(outB 0 n)) = true → ((lvI x).take (j + 1)).all (fun n => !(outB 0 n)) = true := fun j hj ho ha => by
      rw [List.take_succ_eq_append_getElem hj, List.all_append, ha, List.all_cons, ho]; rfl
    have w0 : IntKind.i64.wrap 1 = 1 := by decide
    have w1 : IntKind.i64.wrap 2 = 2 := by decide
    have w2 : IntKind.i64.wrap 3 = 3 := by decide
    have w3 : IntKind.i64.wrap 4 = 4 := by decide
    have w4 : IntKind.i64.wrap 5 = 5 := by decide
    have w5 : IntKind.i64.wrap 6 = 6 := by decide
    have w6 : IntKind.i64.wrap 7 = 7 := by decide
    rcases (by omega : i = 0 ∨ i = 1 ∨ i = 2 ∨ i = 3 ∨ i = 4 ∨ i = 5 ∨ i = 6) with rfl | rfl | rfl | rfl | rfl | rfl | rfl
    · simp only [int, encN, Int.cast_ofNat_Int, List.map_cons, List.map_nil, am, simprocAttr, tys]
      refine ACall.of (refFits x.l0) [] [] rfl (by simp) (by simp) (by simp) (by repeat' (first | exact trivial | exact .inl rfl | exact .inr rfl | exact .inr ⟨rfl, rfl, rfl, by simp; done⟩ | exact .inr ⟨rfl, by simp; done⟩ | exact .inr ⟨rfl, rfl, by simp; done⟩ | apply And.intro)) (by repeat' (first | exact trivial | rfl | exact (tkC_ren.1 _ _).symm | (simp; done) | apply And.intro)) (by first | exact .inl rfl | (refine .inr ⟨trivial, ?_⟩; first | (intro row h; rcases List.mem_singleton.1 h with rfl; exact nvB _) | (intro row h; cases h; done) | (simp; done)) | (refine .inr ⟨by simp [nvP, nvP.nvPs, nvD, nilS, errno], ?_⟩; first | (intro row h; rcases List.mem_singleton.1 h with rfl; exact nvB _) | (intro row h; cases h; done) | (simp [nvRow, nvD, nvP]; done))) ?_
      rcases ho : outB 0 x.l0 with _ | _
      · simp only [bool, w0, am, simprocAttr, tys]
        exact ⟨⟨1, by omega, hnx 0 (by show _ < 7; decide) ho hall⟩, [], [0], ⟨rfl, rfl, by simp, (fun i hi => absurd hi (Nat.not_lt_zero _)), ⟨.inr rfl, .inr rfl, trivial⟩, ⟨.inr ⟨by decide, rfl⟩, trivial⟩, rfl, by decide, rfl, (by first | rfl | simp [scRow, tkC_scs])⟩, by show 7 - 1 < 7 - 0; decide⟩
      · simp only [bool, hfs 0 (by show _ < 7; decide) ho, Bool.false_and, FinR, evRes, evRVs, evRV, am, simprocAttr, tys]
        exact ⟨_, [], [], rfl, Ent.plain rfl rfl rfl trivial rfl, rfl, rfl⟩
    · simp only [int, encN, Int.cast_ofNat_Int, List.map_cons, List.map_nil, am, simprocAttr, tys]
      refine ACall.of (refFits x.l1) [] [] rfl (by simp) (by simp) (by simp) (by repeat' (first | exact trivial | exact .inl rfl | exact .inr rfl | exact .inr ⟨rfl, rfl, rfl, by simp; done⟩ | exact .inr ⟨rfl, by simp; done⟩ | exact .inr ⟨rfl, rfl, by simp; done⟩ | apply And.intro)) (by repeat' (first | exact trivial | rfl | exact (tkC_ren.1 _ _).symm | (simp; done) | apply And.intro)) (by first | exact .inl rfl | (refine .inr ⟨trivial, ?_⟩; first | (intro row h; rcases List.mem_singleton.1 h with rfl; exact nvB _) | (intro row h; cases h; done) | (simp; done)) | (refine .inr ⟨by simp [nvP, nvP.nvPs, nvD, nilS, errno], ?_⟩; first | (intro row h; rcases List.mem_singleton.1 h with rfl; exact nvB _) | (intro row h; cases h; done) | (simp [nvRow, nvD, nvP]; done))) ?_
      rcases ho : outB 0 x.l1 with _ | _
      · simp only [bool, w1, am, simprocAttr, tys]
        exact ⟨⟨2, by omega, hnx 1 (by show _ < 7; decide) ho hall⟩, [], [0], ⟨rfl, rfl, by simp, (fun i hi => absurd hi (Nat.not_lt_zero _)), ⟨.inr rfl, .inr rfl, trivial⟩, ⟨.inr ⟨by decide, rfl⟩, trivial⟩, rfl, by decide, rfl, (by first | rfl | simp [scRow, tkC_scs])⟩, by show 7 - 2 < 7 - 1; decide⟩
      · simp only [bool, hfs 1 (by show _ < 7; decide) ho, Bool.false_and, FinR, evRes, evRVs, evRV, am, simprocAttr, tys]
        exact ⟨_, [], [], rfl, Ent.plain rfl rfl rfl trivial rfl, rfl, rfl⟩
    · simp only [int, encN, Int.cast_ofNat_Int, List.map_cons, List.map_nil, am, simprocAttr, tys]
      refine ACall.of (refFits x.l2) [] [] rfl (by simp) (by simp) (by simp) (by repeat' (first | exact trivial | exact .inl rfl | exact .inr rfl | exact .inr ⟨rfl, rfl, rfl, by simp; done⟩ | exact .inr ⟨rfl, by simp; done⟩ | exact .inr ⟨rfl, rfl, by simp; done⟩ | apply And.intro)) (by repeat' (first | exact trivial | rfl | exact (tkC_ren.1 _ _).symm | (simp; done) | apply And.intro)) (by first | exact .inl rfl | (refine .inr ⟨trivial, ?_⟩; first | (intro row h; rcases List.mem_singleton.1 h with rfl; exact nvB _) | (intro row h; cases h; done) | (simp; done)) | (refine .inr ⟨by simp [nvP, nvP.nvPs, nvD, nilS, errno], ?_⟩; first | (intro row h; rcases List.mem_singleton.1 h with rfl; exact nvB _) | (intro row h; cases h; done) | (simp [nvRow, nvD, nvP]; done))) ?_
      rcases ho : outB 0 x.l2 with _ | _
      · simp only [bool, w2, am, simprocAttr, tys]
        exact ⟨⟨3, by omega, hnx 2 (by show _ < 7; decide) ho hall⟩, [], [0], ⟨rfl, rfl, by simp, (fun i hi => absurd hi (Nat.not_lt_zero _)), ⟨.inr rfl, .inr rfl, trivial⟩, ⟨.inr ⟨by decide, rfl⟩, trivial⟩, rfl, by decide, rfl, (by first | rfl | simp [scRow, tkC_scs])⟩, by show 7 - 3 < 7 - 2; decide⟩
      · simp only [bool, hfs 2 (by show _ < 7; decide) ho, Bool.false_and, FinR, evRes, evRVs, evRV, am, simprocAttr, tys]
        exact ⟨_, [], [], rfl, Ent.plain rfl rfl rfl trivial rfl, rfl, rfl⟩
    · simp only [int, encN, Int.cast_ofNat_Int, List.map_cons, List.map_nil, am, simprocAttr, tys]
      refine ACall.of (refFits x.l3) [] [] rfl (by simp) (by simp) (by simp) (by repeat' (first | exact trivial | exact .inl rfl | exact .inr rfl | exact .inr ⟨rfl, rfl, rfl, by simp; done⟩ | exact .inr ⟨rfl, by simp; done⟩ | exact .inr ⟨rfl, rfl, by simp; done⟩ | apply And.intro)) (by repeat' (first | exact trivial | rfl | exact (tkC_ren.1 _ _).symm | (simp; done) | apply And.intro)) (by first | exact .inl rfl | (refine .inr ⟨trivial, ?_⟩; first | (intro row h; rcases List.mem_singleton.1 h with rfl; exact nvB _) | (intro row h; cases h; done) | (simp; done)) | (refine .inr ⟨by simp [nvP, nvP.nvPs, nvD, nilS, errno], ?_⟩; first | (intro row h; rcases List.mem_singleton.1 h with rfl; exact nvB _) | (intro row h; cases h; done) | (simp [nvRow, nvD, nvP]; done))) ?_
      rcases ho : outB 0 x.l3 with _ | _
      · simp only [bool, w3, am, simprocAttr, tys]
        exact ⟨⟨4, by omega, hnx 3 (by show _ < 7; decide) ho hall⟩, [], [0], ⟨rfl, rfl, by simp, (fun i hi => absurd hi (Nat.not_lt_zero _)), ⟨.inr rfl, .inr rfl, trivial⟩, ⟨.inr ⟨by decide, rfl⟩, trivial⟩, rfl, by decide, rfl, (by first | rfl | simp [scRow, tkC_scs])⟩, by show 7 - 4 < 7 - 3; decide⟩
      · simp only [bool, hfs 3 (by show _ < 7; decide) ho, Bool.false_and, FinR, evRes, evRVs, evRV, am, simprocAttr, tys]
        exact ⟨_, [], [], rfl, Ent.plain rfl rfl rfl trivial rfl, rfl, rfl⟩
    · simp only [int, encN, Int.cast_ofNat_Int, List.map_cons, List.map_nil, am, simprocAttr, tys]
      refine ACall.of (refFits x.l4) [] [] rfl (by simp) (by simp) (by simp) (by repeat' (first | exact trivial | exact .inl rfl | exact .inr rfl | exact .inr ⟨rfl, rfl, rfl, by simp; done⟩ | exact .inr ⟨rfl, by simp; done⟩ | exact .inr ⟨rfl, rfl, by simp; done⟩ | apply And.intro)) (by repeat' (first | exact trivial | rfl | exact (tkC_ren.1 _ _).symm | (simp; done) | apply And.intro)) (by first | exact .inl rfl | (refine .inr ⟨trivial, ?_⟩; first | (intro row h; rcases List.mem_singleton.1 h with rfl; exact nvB _) | (intro row h; cases h; done) | (simp; done)) | (refine .inr ⟨by simp [nvP, nvP.nvPs, nvD, nilS, errno], ?_⟩; first | (intro row h; rcases List.mem_singleton.1 h with rfl; exact nvB _) | (intro row h; cases h; done) | (simp [nvRow, nvD, nvP]; done))) ?_
      rcases ho : outB 0 x.l4 with _ | _
      · simp only [bool, w4, am, simprocAttr, tys]
        exact ⟨⟨5, by omega, hnx 4 (by show _ < 7; decide) ho hall⟩, [], [0], ⟨rfl, rfl, by simp, (fun i hi => absurd hi (Nat.not_lt_zero _)), ⟨.inr rfl, .inr rfl, trivial⟩, ⟨.inr ⟨by decide, rfl⟩, trivial⟩, rfl, by decide, rfl, (by first | rfl | simp [scRow, tkC_scs])⟩, by show 7 - 5 < 7 - 4; decide⟩
      · simp only [bool, hfs 4 (by show _ < 7; decide) ho, Bool.false_and, FinR, evRes, evRVs, evRV, am, simprocAttr, tys]
        exact ⟨_, [], [], rfl, Ent.plain rfl rfl rfl trivial rfl, rfl, rfl⟩
    · simp only [int, encN, Int.cast_ofNat_Int, List.map_cons, List.map_nil, am, simprocAttr, tys]
      refine ACall.of (refFits x.l5) [] [] rfl (by simp) (by simp) (by simp) (by repeat' (first | exact trivial | exact .inl rfl | exact .inr rfl | exact .inr ⟨rfl, rfl, rfl, by simp; done⟩ | exact .inr ⟨rfl, by simp; done⟩ | exact .inr ⟨rfl, rfl, by simp; done⟩ | apply And.intro)) (by repeat' (first | exact trivial | rfl | exact (tkC_ren.1 _ _).symm | (simp; done) | apply And.intro)) (by first | exact .inl rfl | (refine .inr ⟨trivial, ?_⟩; first | (intro row h; rcases List.mem_singleton.1 h with rfl; exact nvB _) | (intro row h; cases h; done) | (simp; done)) | (refine .inr ⟨by simp [nvP, nvP.nvPs, nvD, nilS, errno], ?_⟩; first | (intro row h; rcases List.mem_singleton.1 h with rfl; exact nvB _) | (intro row h; cases h; done) | (simp [nvRow, nvD, nvP]; done))) ?_
      rcases ho : outB 0 x.l5 with _ | _
      · simp only [bool, w5, am, simprocAttr, tys]
        exact ⟨⟨6, by omega, hnx 5 (by show _ < 7; decide) ho hall⟩, [], [0], ⟨rfl, rfl, by simp, (fun i hi => absurd hi (Nat.not_lt_zero _)), ⟨.inr rfl, .inr rfl, trivial⟩, ⟨.inr ⟨by decide, rfl⟩, trivial⟩, rfl, by decide, rfl, (by first | rfl | simp [scRow, tkC_scs])⟩, by show 7 - 6 < 7 - 5; decide⟩
      · simp only [bool, hfs 5 (by show _ < 7; decide) ho, Bool.false_and, FinR, evRes, evRVs, evRV, am, simprocAttr, tys]
        exact ⟨_, [], [], rfl, Ent.plain rfl rfl rfl trivial rfl, rfl, rfl⟩
    · simp only [int, encN, Int.cast_ofNat_Int, List.map_cons, List.map_nil, am, simprocAttr, tys]
      refine ACall.of (refFits x.l6) [] [] rfl (by simp) (by simp) (by simp) (by repeat' (first | exact trivial | exact .inl rfl | exact .inr rfl | exact .inr ⟨rfl, rfl, rfl, by simp; done⟩ | exact .inr ⟨rfl, by simp; done⟩ | exact .inr ⟨rfl, rfl, by simp; done⟩ | apply And.intro)) (by repeat' (first | exact trivial | rfl | exact (tkC_ren.1 _ _).symm | (simp; done) | apply And.intro)) (by first | exact .inl rfl | (refine .inr ⟨trivial, ?_⟩; first | (intro row h; rcases List.mem_singleton.1 h with rfl; exact nvB _) | (intro row h; cases h; done) | (simp; done)) | (refine .inr ⟨by simp [nvP, nvP.nvPs, nvD, nilS, errno], ?_⟩; first | (intro row h; rcases List.mem_singleton.1 h with rfl; exact nvB _) | (intro row h; cases h; done) | (simp [nvRow, nvD, nvP]; done))) ?_
      rcases ho : outB 0 x.l6 with _ | _
      · simp only [bool, w6, am, simprocAttr, tys]
        exact ⟨⟨7, by omega, hnx 6 (by show _ < 7; decide) ho hall⟩, [], [0], ⟨rfl, rfl, by simp, (fun i hi => absurd hi (Nat.not_lt_zero _)), ⟨.inr rfl, .inr rfl, trivial⟩, ⟨.inr ⟨by decide, rfl⟩, trivial⟩, rfl, by decide, rfl, (by first | rfl | simp [scRow, tkC_scs])⟩, by show 7 - 7 < 7 - 6; decide⟩
      · simp only [bool, hfs 6 (by show _ < 7; decide) ho, Bool.false_and, FinR, evRes, evRVs, evRV, am, simprocAttr, tys]
        exact ⟨_, [], [], rfl, Ent.plain rfl rfl rfl trivial rfl, rfl, rfl⟩
  · obtain rfl : i = 7 := by omega
    have hfit : fitsB 0 [x.l0, x.l1, x.l2, x.l3, x.l4, x.l5, x.l6] = true := by
      have h := hall
      have e : (lvI x).take 7 = lvI x := List.take_of_length_le (by simp [lvI])
      rw [e] at h
      show (!((lvI x).any (outB 0))) = true
      rw [List.not_any_eq_all_not]; exact h
    simp only [int, encN, hfit, Bool.true_and, Int.cast_ofNat_Int, List.map_cons, List.map_nil, am, simprocAttr, tys]
    refine ALoopW.intro 118 0 (ι := { i : Nat // i ≤ x.log.length ∧ (x.log.take i).all mayE = true }) (fun i => [(1, .ptr 0 0), (4, int i.1)]) (fun _ => [.box ((encN x).map .d)]) (fun i => x.log.length - i.1) ⟨0, by omega, rfl⟩ [] [0] ?_ (fun ⟨i, hi, hall⟩ => ?_)
    · exact ⟨rfl, rfl, by simp, (fun i hi => absurd hi (Nat.not_lt_zero _)), ⟨.inr rfl, .inr rfl, trivial⟩, ⟨.inr ⟨by decide, rfl⟩, trivial⟩, rfl, by decide, rfl, (by first | rfl | simp [scRow, tkC_scs])⟩
    simp only
    rcases Nat.lt_or_ge i x.log.length with hlt | hge
    · have hb : x.log[i]? = some x.log[i] := List.getElem?_eq_getElem hlt
      have hltI : ((i : Int) < x.log.length) := by omega
      have e1 : IntKind.i64.wrap ((i : Int) + 1) = ((i + 1 : Nat) : Int) := by rw [IntWalk.i64_in _ (by have := h.hl; omega)]; simp
      have fe := h.he x.log[i] (List.getElem_mem hlt)
      have cR := refORight x.log[i].2.2.1 fe.2.2.toFit
      simp only [encO] at cR
      have hne : mayE x.log[i] = false → x.log.all mayE = false := fun hm => by
        rw [List.all_eq_false]
        exact ⟨_, List.getElem_mem hlt, by rw [hm]; simp⟩
      have hnx : mayE x.log[i] = true → (x.log.take (i + 1)).all mayE = true := fun hm => by
        rw [List.take_succ_eq_append_getElem hlt, List.all_append, hall, List.all_cons, hm]; rfl
      rw [mayE_eq] at hne hnx
      have hge0 : ((0 : Int) ≤ i) := by omega
      rcases g1 : decide (x.log[i].1 < 0) with _ | _
      case' true =>
        simp only [int, encN, encE, hb, hltI, g1, hne (by rw [g1]; rfl), bool, Int.natCast_nonneg, Int.toNat_natCast, List.map_cons, List.map_nil, FinR, evRes, evRVs, evRV, am, simprocAttr, tys]
        exact ⟨_, [], [], rfl, Ent.plain rfl rfl rfl trivial rfl, rfl, rfl⟩
      rcases g2 : decide (8 ≤ x.log[i].1) with _ | _
      case' true =>
        simp only [int, encN, encE, hb, hltI, g1, g2, hne (by rw [g1, g2]; rfl), bool, Int.natCast_nonneg, Int.toNat_natCast, List.map_cons, List.map_nil, FinR, evRes, evRVs, evRV, am, simprocAttr, tys]
        exact ⟨_, [], [], rfl, Ent.plain rfl rfl rfl trivial rfl, rfl, rfl⟩
      rcases g3 : decide (x.log[i].2.1 < 1) with _ | _
      case' true =>
        simp only [int, encN, encE, hb, hltI, g1, g2, g3, hne (by rw [g1, g2, g3]; rfl), bool, Int.natCast_nonneg, Int.toNat_natCast, List.map_cons, List.map_nil, FinR, evRes, evRVs, evRV, am, simprocAttr, tys]
        exact ⟨_, [], [], rfl, Ent.plain rfl rfl rfl trivial rfl, rfl, rfl⟩
      simp only [int, encN, encE, hb, hltI, g1, g2, g3, Int.natCast_nonneg, Int.toNat_natCast, List.map_cons, List.map_nil, am, simprocAttr, tys]
      refine ACall.of (refFits x.log[i].2.1) [] [] rfl (by simp) (by simp) (by simp) (by repeat' (first | exact trivial | exact .inl rfl | exact .inr rfl | exact .inr ⟨rfl, rfl, rfl, by simp; done⟩ | exact .inr ⟨rfl, by simp; done⟩ | exact .inr ⟨rfl, rfl, by simp; done⟩ | apply And.intro)) (by repeat' (first | exact trivial | rfl | exact (tkC_ren.1 _ _).symm | (simp; done) | apply And.intro)) (by first | exact .inl rfl | (refine .inr ⟨trivial, ?_⟩; first | (intro row h; rcases List.mem_singleton.1 h with rfl; exact nvB _) | (intro row h; cases h; done) | (simp; done)) | (refine .inr ⟨by simp [nvP, nvP.nvPs, nvD, nilS, errno], ?_⟩; first | (intro row h; rcases List.mem_singleton.1 h with rfl; exact nvB _) | (intro row h; cases h; done) | (simp [nvRow, nvD, nvP]; done))) ?_
      rcases g4 : outB 0 x.log[i].2.1 with _ | _
      case' true =>
        simp only [bool, hne (by rw [g1, g2, g3, g4]; rfl), FinR, evRes, evRVs, evRV, am, simprocAttr, tys]
        exact ⟨_, [], [], rfl, Ent.plain rfl rfl rfl trivial rfl, rfl, rfl⟩
      simp only [bool, am, simprocAttr, tys]
      refine ACall.of (cR) [] [] rfl (by simp) (by simp) (by simp) (by repeat' (first | exact trivial | exact .inl rfl | exact .inr rfl | exact .inr ⟨rfl, rfl, rfl, by simp; done⟩ | exact .inr ⟨rfl, by simp; done⟩ | exact .inr ⟨rfl, rfl, by simp; done⟩ | apply And.intro)) (by repeat' (first | exact trivial | rfl | exact (tkC_ren.1 _ _).symm | (simp; done) | apply And.intro)) (by first | exact .inl rfl | (refine .inr ⟨trivial, ?_⟩; first | (intro row h; rcases List.mem_singleton.1 h with rfl; exact nvB _) | (intro row h; cases h; done) | (simp; done)) | (refine .inr ⟨by simp [nvP, nvP.nvPs, nvD, nilS, errno], ?_⟩; first | (intro row h; rcases List.mem_singleton.1 h with rfl; exact nvB _) | (intro row h; cases h; done) | (simp [nvRow, nvD, nvP]; done))) ?_
      rcases g5 : rightO x.log[i].2.2.1 with _ | _
      · simp only [bool, hne (by rw [g1, g2, g3, g4, g5]; rfl), FinR, evRes, evRVs, evRV, am, simprocAttr, tys]
        exact ⟨_, [], [], rfl, Ent.plain rfl rfl rfl trivial rfl, rfl, rfl⟩
      · simp only [bool, e1, am, simprocAttr, tys]
        exact ⟨⟨i + 1, by omega, hnx (by rw [g1, g2, g3, g4, g5]; rfl)⟩, [], [0], ⟨rfl, rfl, by simp, (fun i hi => absurd hi (Nat.not_lt_zero _)), ⟨.inr rfl, .inr rfl, trivial⟩, ⟨.inr ⟨by decide, rfl⟩, trivial⟩, rfl, by decide, rfl, (by first | rfl | simp [scRow, tkC_scs])⟩, by show x.log.length - (i + 1) < x.log.length - i; omega⟩
    · have hltI : ¬ ((i : Int) < x.log.length) := by omega
      rw [List.take_of_length_le hge] at hall
      simp only [int, encN, hltI, hall, bool, List.map_cons, List.map_nil, FinR, evRes, evRVs, evRV, am, simprocAttr, tys]
      exact ⟨_, [], [], rfl, Ent.plain rfl rfl rfl trivial rfl, rfl, rfl⟩
end Go.Proofs.Ytflpphgccjlkjaa

set_option linter.unusedSimpArgs false
set_option linter.unusedVariables false
namespace Go.Proofs.Ytflpphgccjlkjaa
open Go Go.AM

/-! ## whether two are the same -/
def sameE (e g : EntT) : Bool := e.1 == g.1 && (e.2.1 == g.2.1 && sameO e.2.2.1 g.2.2.1)
theorem sameE_iff (e g : EntT) : sameE e g = true ↔ e = g := by
  obtain ⟨a, b, o, ⟨⟩⟩ := e
  obtain ⟨a', b', o', ⟨⟩⟩ := g
  simp [sameE, sameO_iff]
instance : DecidableEq EntT := fun e g => decidable_of_iff _ (sameE_iff e g)
theorem sameE_eq (e g : EntT) : sameE e g = decide (e = g) := by
  rw [Bool.eq_iff_iff, sameE_iff, decide_eq_true_eq]

theorem noteOne (e g : EntT) (he : FitE e) (hg : FitE g) : AFun Try.prog 22 [.d (.agg (encE e)), .d (.agg (encE g))] [] (bool (sameE e g)) [] := by
  refine AFun.of_walk hP Try.func22 rfl rfl rfl (by simp) rfl ?_
  have c := opSame e.2.2.1 g.2.2.1 he.2.2.l hg.2.2.l he.2.2.a hg.2.2.a
  simp only [encO] at c
  unfold sameE
  rcases h0 : e.1 == g.1 with _ | _
  · simp only [Try.f22, encE, bool, h0, Bool.false_and, FinR, evRes, evRVs, evRV, am, simprocAttr, tys]
    exact ⟨_, [], [], rfl, Ent.plain rfl rfl rfl trivial rfl, rfl, rfl⟩
  rcases h1 : e.2.1 == g.2.1 with _ | _
  · simp only [Try.f22, encE, bool, h0, h1, Bool.true_and, Bool.false_and, FinR, evRes, evRVs, evRV, am, simprocAttr, tys]
    exact ⟨_, [], [], rfl, Ent.plain rfl rfl rfl trivial rfl, rfl, rfl⟩
  simp only [Try.f22, encE, h0, h1, Bool.true_and, am, simprocAttr, tys]
  refine ACall.of (c) [] [] rfl (by simp) (by simp) (by simp) (by repeat' (first | exact trivial | exact .inl rfl | exact .inr rfl | exact .inr ⟨rfl, rfl, rfl, by simp; done⟩ | exact .inr ⟨rfl, by simp; done⟩ | exact .inr ⟨rfl, rfl, by simp; done⟩ | apply And.intro)) (by repeat' (first | exact trivial | rfl | exact (tkC_ren.1 _ _).symm | (simp; done) | apply And.intro)) (by first | exact .inl rfl | (refine .inr ⟨trivial, ?_⟩; first | (intro row h; rcases List.mem_singleton.1 h with rfl; exact nvB _) | (intro row h; cases h; done) | (simp; done)) | (refine .inr ⟨by simp [nvP, nvP.nvPs, nvD, nilS, errno], ?_⟩; first | (intro row h; rcases List.mem_singleton.1 h with rfl; exact nvB _) | (intro row h; cases h; done) | (simp [nvRow, nvD, nvP]; done))) ?_
  simp only [bool, FinR, evRes, evRVs, evRV, am, simprocAttr, tys]
  exact ⟨_, [], [], rfl, Ent.plain rfl rfl rfl trivial rfl, rfl, rfl⟩

theorem refOne (e g : EntT) (he : FitE e) (hg : FitE g) : AFun Try.prog 37 [.d (.agg (encE e)), .d (.agg (encE g))] [] (bool (sameE e g)) [] := by
  refine AFun.of_walk hP Try.func37 rfl rfl rfl (by simp) rfl ?_
  have c := refOSame e.2.2.1 g.2.2.1 he.2.2.l hg.2.2.l he.2.2.a hg.2.2.a
  simp only [encO] at c
  unfold sameE
  rcases h0 : e.1 == g.1 with _ | _
  · simp only [Try.f37, encE, bool, h0, Bool.false_and, FinR, evRes, evRVs, evRV, am, simprocAttr, tys]
    exact ⟨_, [], [], rfl, Ent.plain rfl rfl rfl trivial rfl, rfl, rfl⟩
  rcases h1 : e.2.1 == g.2.1 with _ | _
  · simp only [Try.f37, encE, bool, h0, h1, Bool.true_and, Bool.false_and, FinR, evRes, evRVs, evRV, am, simprocAttr, tys]
    exact ⟨_, [], [], rfl, Ent.plain rfl rfl rfl trivial rfl, rfl, rfl⟩
  simp only [Try.f37, encE, h0, h1, Bool.true_and, am, simprocAttr, tys]
  refine ACall.of (c) [] [] rfl (by simp) (by simp) (by simp) (by repeat' (first | exact trivial | exact .inl rfl | exact .inr rfl | exact .inr ⟨rfl, rfl, rfl, by simp; done⟩ | exact .inr ⟨rfl, by simp; done⟩ | exact .inr ⟨rfl, rfl, by simp; done⟩ | apply And.intro)) (by repeat' (first | exact trivial | rfl | exact (tkC_ren.1 _ _).symm | (simp; done) | apply And.intro)) (by first | exact .inl rfl | (refine .inr ⟨trivial, ?_⟩; first | (intro row h; rcases List.mem_singleton.1 h with rfl; exact nvB _) | (intro row h; cases h; done) | (simp; done)) | (refine .inr ⟨by simp [nvP, nvP.nvPs, nvD, nilS, errno], ?_⟩; first | (intro row h; rcases List.mem_singleton.1 h with rfl; exact nvB _) | (intro row h; cases h; done) | (simp [nvRow, nvD, nvP]; done))) ?_
  simp only [bool, FinR, evRes, evRVs, evRV, am, simprocAttr, tys]
  exact ⟨_, [], [], rfl, Ent.plain rfl rfl rfl trivial rfl, rfl, rfl⟩

theorem take_ne {α : Type} {a b : List α} {i : Nat} {x y : α} (ha : a[i]? = some x) (hb : b[i]? = some y) (h : x ≠ y) : a ≠ b := fun e => by
  rw [e, hb] at ha; exact h (Option.some.inj ha).symm
theorem take_step {α : Type} {a b : List α} {i : Nat} {x : α} (ha : a[i]? = some x) (hb : b[i]? = some x) (h : a.take i = b.take i) : a.take (i + 1) = b.take (i + 1) := by
  rw [List.take_add_one, List.take_add_one, h, ha, hb]

set_option maxRecDepth 8000 in
theorem equalE (a b : List EntT) (ha : a.length ≤ 9223372036854775807) (hb : b.length ≤ 9223372036854775807) (fa : ∀ e ∈ a, FitE e) (fb : ∀ e ∈ b, FitE e) :
    AFun Try.prog 21 [.d (.sl 7 (a.map encE)), .d (.sl 7 (b.map encE)), .clo (.func 22) [] []] [] (bool (decide (a = b))) [] := by
  refine AFun.of_walk hP Try.func21 rfl rfl rfl (by simp) rfl ?_
  rcases hl : ((a.length : Int) == (b.length : Int)) with _ | _
  · have hne : decide (a = b) = false := decide_eq_false fun e => by rw [e] at hl; simp at hl
    have hl2 : ((a.length : Int) != (b.length : Int)) = true := by simp [bne, hl]
    simp only [Try.f21, List.length_map, hl, hl2, hne, bool, FinR, evRes, evRVs, evRV, am, simprocAttr, tys]
    exact ⟨_, [], [], rfl, Ent.plain rfl rfl rfl trivial rfl, rfl, rfl⟩
  have hl2 : ((a.length : Int) != (b.length : Int)) = false := by simp [bne, hl]
  have hll : a.length = b.length := by have := eq_of_beq hl; omega
  simp only [Try.f21, List.length_map, hl, hl2, am, simprocAttr, tys]
  refine ALoopW.intro 32 0 (ι := { i : Nat // i ≤ a.length ∧ a.take i = b.take i }) (fun i => [(1, .d (.sl 7 (b.map encE))), (2, .clo (.func 22) [] []), (15, .d (.sl 7 (a.map encE))), (16, int a.length), (17, int i.1)]) (fun _ => []) (fun i => a.length - i.1) ⟨0, by omega, rfl⟩ [] [] ?_ (fun ⟨i, hi, hab⟩ => ?_)
  · exact Ent.plain rfl rfl rfl (⟨.inr rfl, .inr rfl, .inr rfl, .inr rfl, .inr rfl, trivial⟩) rfl
  simp only
  rcases Nat.lt_or_ge i a.length with hlt | hge
  · have h1 : a[i]? = some a[i] := List.getElem?_eq_getElem hlt
    have hltb : i < b.length := by omega
    have h2 : b[i]? = some b[i] := List.getElem?_eq_getElem hltb
    have hltI : ((i : Int) < a.length) := by omega
    have hltI2 : ((i : Int) < b.length) := by omega
    have e1 : IntKind.i64.wrap ((i : Int) + 1) = ((i + 1 : Nat) : Int) := by rw [IntWalk.i64_in _ (by omega)]; simp
    have c := noteOne a[i] b[i] (fa _ (List.getElem_mem hlt)) (fb _ (List.getElem_mem hltb))
    simp only [encE] at c
    simp only [int, h1, h2, hltI, hltI2, encE, Int.natCast_nonneg, Int.toNat_natCast, am, simprocAttr, tys]
    refine ACall.of (c) [] [] rfl (by simp) (by simp) (by simp) (by repeat' (first | exact trivial | exact .inl rfl | exact .inr rfl | exact .inr ⟨rfl, rfl, rfl, by simp; done⟩ | exact .inr ⟨rfl, by simp; done⟩ | exact .inr ⟨rfl, rfl, by simp; done⟩ | apply And.intro)) (by repeat' (first | exact trivial | rfl | exact (tkC_ren.1 _ _).symm | (simp; done) | apply And.intro)) (by first | exact .inl rfl | (refine .inr ⟨trivial, ?_⟩; first | (intro row h; rcases List.mem_singleton.1 h with rfl; exact nvB _) | (intro row h; cases h; done) | (simp; done)) | (refine .inr ⟨by simp [nvP, nvP.nvPs, nvD, nilS, errno], ?_⟩; first | (intro row h; rcases List.mem_singleton.1 h with rfl; exact nvB _) | (intro row h; cases h; done) | (simp [nvRow, nvD, nvP]; done))) ?_
    rcases hs : sameE a[i] b[i] with _ | _
    · have hne : decide (a = b) = false := decide_eq_false (take_ne h1 h2 fun e => by
        have := (sameE_iff a[i] b[i]).2 e
        rw [hs] at this; cases this)
      simp only [bool, hne, FinR, evRes, evRVs, evRV, am, simprocAttr, tys]
      exact ⟨_, [], [], rfl, Ent.plain rfl rfl rfl trivial rfl, rfl, rfl⟩
    · have hee := (sameE_iff _ _).1 hs
      simp only [bool, e1, am, simprocAttr, tys]
      exact ⟨⟨i + 1, by omega, take_step h1 (by rw [h2, hee]) hab⟩, [], [], Ent.plain rfl rfl rfl (⟨.inr rfl, .inr rfl, .inr rfl, .inr rfl, .inr rfl, trivial⟩) rfl, by show a.length - (i + 1) < a.length - i; omega⟩
  · have hltI : ¬ ((i : Int) < a.length) := by omega
    rw [List.take_of_length_le hge, List.take_of_length_le (by omega)] at hab
    have he : decide (a = b) = true := decide_eq_true hab
    simp only [int, hltI, he, bool, FinR, evRes, evRVs, evRV, am, simprocAttr, tys]
    exact ⟨_, [], [], rfl, Ent.plain rfl rfl rfl trivial rfl, rfl, rfl⟩

def prefB (a b : List EntT) : Bool := decide (a = b.take a.length)
theorem prefB_len {a b : List EntT} (h : b.length < a.length) : prefB a b = false := decide_eq_false fun e => by
  have := congrArg List.length e
  simp at this; omega

theorem notePrefix (a b : List EntT) (ha : a.length ≤ 9223372036854775807) (hb : b.length ≤ 9223372036854775807) (fa : ∀ e ∈ a, FitE e) (fb : ∀ e ∈ b, FitE e) :
    AFun Try.prog 11 [.d (.sl 7 (a.map encE)), .d (.sl 7 (b.map encE))] [] (bool (prefB a b)) [] := by
  refine AFun.of_walk hP Try.func11 rfl rfl rfl (by simp) rfl ?_
  rcases Nat.lt_or_ge b.length a.length with hlt | hge
  · have hI : ¬ ((a.length : Int) ≤ b.length) := by omega
    have hI2 : decide ((a.length : Int) ≤ b.length) = false := decide_eq_false hI
    simp only [Try.f11, List.length_map, hI, hI2, prefB_len hlt, bool, FinR, evRes, evRVs, evRV, am, simprocAttr, tys]
    exact ⟨_, [], [], rfl, Ent.plain rfl rfl rfl trivial rfl, rfl, rfl⟩
  · have hI : ((a.length : Int) ≤ b.length) := by omega
    have hI2 : decide ((a.length : Int) ≤ b.length) = true := decide_eq_true hI
    have c := equalE a (b.take a.length) ha (by simp; omega) fa (fun e he => fb e (List.mem_of_mem_take he))
    simp only [Try.f11, List.length_map, hI, hI2, Int.natCast_nonneg, Int.toNat_natCast, List.drop_zero, ← List.map_take, am, simprocAttr, tys]
    refine ACall.of (c) [] [] rfl (by simp) (by simp) (by simp) (by repeat' (first | exact trivial | exact .inl rfl | exact .inr rfl | exact .inr ⟨rfl, rfl, rfl, by simp; done⟩ | exact .inr ⟨rfl, by simp; done⟩ | exact .inr ⟨rfl, rfl, by simp; done⟩ | apply And.intro)) (by repeat' (first | exact trivial | rfl | exact (tkC_ren.1 _ _).symm | (simp; done) | apply And.intro)) (by first | exact .inl rfl | (refine .inr ⟨trivial, ?_⟩; first | (intro row h; rcases List.mem_singleton.1 h with rfl; exact nvB _) | (intro row h; cases h; done) | (simp; done)) | (refine .inr ⟨by simp [nvP, nvP.nvPs, nvD, nilS, errno], ?_⟩; first | (intro row h; rcases List.mem_singleton.1 h with rfl; exact nvB _) | (intro row h; cases h; done) | (simp [nvRow, nvD, nvP]; done))) ?_
    simp only [prefB, bool, FinR, evRes, evRVs, evRV, am, simprocAttr, tys]
    exact ⟨_, [], [], rfl, Ent.plain rfl rfl rfl trivial rfl, rfl, rfl⟩

set_option maxRecDepth 8000 in
theorem refPrefix (a b : List EntT) (ha : a.length ≤ 9223372036854775807) (hb : b.length ≤ 9223372036854775807) (fa : ∀ e ∈ a, FitE e) (fb : ∀ e ∈ b, FitE e) :
    AFun Try.prog 18 [.d (.sl 7 (a.map encE)), .d (.sl 7 (b.map encE))] [] (bool (prefB a b)) [] := by
  refine AFun.of_walk hP Try.func18 rfl rfl rfl (by simp) rfl ?_
  rcases Nat.lt_or_ge b.length a.length with hlt | hge
  · have hI : ((b.length : Int) < a.length) := by omega
    simp only [Try.f18, List.length_map, hI, prefB_len hlt, bool, FinR, evRes, evRVs, evRV, am, simprocAttr, tys]
    exact ⟨_, [], [], rfl, Ent.plain rfl rfl rfl trivial rfl, rfl, rfl⟩
  have hI : ¬ ((b.length : Int) < a.length) := by omega
  simp only [Try.f18, List.length_map, hI, am, simprocAttr, tys]
  refine ALoopW.intro 27 0 (ι := { i : Nat // i ≤ a.length ∧ a.take i = (b.take a.length).take i }) (fun i => [(0, .d (.sl 7 (a.map encE))), (1, .d (.sl 7 (b.map encE))), (5, int i.1)]) (fun _ => []) (fun i => a.length - i.1) ⟨0, by omega, rfl⟩ [] [] ?_ (fun ⟨i, hi, hab⟩ => ?_)
  · exact Ent.plain rfl rfl rfl (⟨.inr rfl, .inr rfl, .inr rfl, trivial⟩) rfl
  simp only
  rcases Nat.lt_or_ge i a.length with hlt | hge'
  · have h1 : a[i]? = some a[i] := List.getElem?_eq_getElem hlt
    have hltb : i < b.length := by omega
    have h2 : b[i]? = some b[i] := List.getElem?_eq_getElem hltb
    have h2' : (b.take a.length)[i]? = some b[i] := by rw [List.getElem?_take, if_pos hlt]; exact h2
    have hltI : ((i : Int) < a.length) := by omega
    have e1 : IntKind.i64.wrap ((i : Int) + 1) = ((i + 1 : Nat) : Int) := by rw [IntWalk.i64_in _ (by omega)]; simp
    have c := refOne a[i] b[i] (fa _ (List.getElem_mem hlt)) (fb _ (List.getElem_mem hltb))
    simp only [encE] at c
    simp only [int, h1, h2, hltI, encE, List.length_map, Int.natCast_nonneg, Int.toNat_natCast, am, simprocAttr, tys]
    refine ACallD.of (c) (by kernel_rfl) [] [] rfl (by simp) (by simp) (by simp) (by simp) (by repeat' (first | exact trivial | exact .inl rfl | exact .inr rfl | exact .inr ⟨rfl, rfl, rfl, by simp; done⟩ | exact .inr ⟨rfl, by simp; done⟩ | exact .inr ⟨rfl, rfl, by simp; done⟩ | apply And.intro)) (by repeat' (first | exact trivial | rfl | exact (tkC_ren.1 _ _).symm | (simp; done) | apply And.intro)) (by first | exact .inl rfl | (refine .inr ⟨trivial, ?_⟩; first | (intro row h; rcases List.mem_singleton.1 h with rfl; exact nvB _) | (intro row h; cases h; done) | (simp; done)) | (refine .inr ⟨by simp [nvP, nvP.nvPs, nvD, nilS, errno], ?_⟩; first | (intro row h; rcases List.mem_singleton.1 h with rfl; exact nvB _) | (intro row h; cases h; done) | (simp [nvRow, nvD, nvP]; done))) rfl rfl rfl rfl ?_
    rcases hs : sameE a[i] b[i] with _ | _
    · have hne : prefB a b = false := decide_eq_false (take_ne h1 h2' fun e => by
        have := (sameE_iff a[i] b[i]).2 e
        rw [hs] at this; cases this)
      simp only [bool, hne, FinR, evRes, evRVs, evRV, am, simprocAttr, tys]
      exact ⟨by kernel_rfl, ⟨_, [], [], rfl, Ent.plain rfl rfl rfl trivial rfl, rfl, rfl⟩⟩
    · have hee := (sameE_iff _ _).1 hs
      simp only [bool, e1, am, simprocAttr, tys]
      exact ⟨by kernel_rfl, ⟨i + 1, by omega, take_step h1 (by rw [h2', hee]) hab⟩, [], [], Ent.plain rfl rfl rfl (⟨.inr rfl, .inr rfl, .inr rfl, trivial⟩) rfl, by show a.length - (i + 1) < a.length - i; omega⟩
  · have hltI : ¬ ((i : Int) < a.length) := by omega
    rw [List.take_of_length_le hge', List.take_of_length_le (by simp; omega)] at hab
    have he : prefB a b = true := decide_eq_true hab
    simp only [int, hltI, List.length_map, he, bool, FinR, evRes, evRVs, evRV, am, simprocAttr, tys]
    exact ⟨_, [], [], rfl, Ent.plain rfl rfl rfl trivial rfl, rfl, rfl⟩
end Go.Proofs.Ytflpphgccjlkjaa

set_option linter.unusedSimpArgs false
set_option linter.unusedVariables false
namespace Go.Proofs.Ytflpphgccjlkjaa
open Go Go.AM

def lvB (x y : NT) : Bool := x.l0 == y.l0 && (x.l1 == y.l1 && (x.l2 == y.l2 && (x.l3 == y.l3 && (x.l4 == y.l4 && (x.l5 == y.l5 && x.l6 == y.l6)))))
def sameN (x y : NT) : Bool := ((x.k.toNat : Int) == (y.k.toNat : Int)) && ((x.f == y.f) && ((x.t == y.t) && ((x.v == y.v) && ((x.n == y.n) && ((x.i == y.i) && ((x.s == y.s) && ((x.ld == y.ld) && (lvB x y && decide (x.log = y.log)))))))))
theorem sameN_iff (x y : NT) : sameN x y = true ↔ x = y := by
  obtain ⟨a0, a1, a2, a3, a4, a5, a6, a7, b0, b1, b2, b3, b4, b5, b6, l⟩ := x
  obtain ⟨a0', a1', a2', a3', a4', a5', a6', a7', b0', b1', b2', b3', b4', b5', b6', l'⟩ := y
  have hk : (a0.toNat : Int) = (a0'.toNat : Int) ↔ a0 = a0' := ⟨fun h => UInt8.toNat_inj.1 (by omega), fun h => by rw [h]⟩
  simp only [sameN, lvB, Bool.and_eq_true, beq_iff_eq, decide_eq_true_eq, NT.mk.injEq, hk, and_assoc]
theorem lv_cells (x y : NT) : eqLits [.int .i64, .int .i64, .int .i64, .int .i64, .int .i64, .int .i64, .int .i64] [.lit (.int .i64 x.l0), .lit (.int .i64 x.l1), .lit (.int .i64 x.l2), .lit (.int .i64 x.l3), .lit (.int .i64 x.l4), .lit (.int .i64 x.l5), .lit (.int .i64 x.l6)]
    [.lit (.int .i64 y.l0), .lit (.int .i64 y.l1), .lit (.int .i64 y.l2), .lit (.int .i64 y.l3), .lit (.int .i64 y.l4), .lit (.int .i64 y.l5), .lit (.int .i64 y.l6)] = some (lvB x y) := by
  simp only [eqLits, eqK, if_true, Bool.and_true, lvB]

set_option maxRecDepth 8000 in
set_option maxHeartbeats 2000000 in
theorem noteSame (x y : NT) (hx : FitN x) (hy : FitN y) : AFun Try.prog 13 [.d (.agg (encN x)), .d (.agg (encN y))] [] (bool (sameN x y)) [] := by
  refine AFun.of_walk hP Try.func13 rfl rfl rfl (by simp) rfl ?_
  have hc := lv_cells x y
  unfold sameN
  rcases h0 : ((x.k.toNat : Int) == (y.k.toNat : Int)) with _ | _
  case' false =>
    simp only [Try.f13, encN, bool, h0, Bool.true_and, Bool.false_and, FinR, evRes, evRVs, evRV, am, simprocAttr, tys]
    exact ⟨_, [], [], rfl, Ent.plain rfl rfl rfl trivial rfl, rfl, rfl⟩
  rcases h1 : (x.f == y.f) with _ | _
  case' false =>
    simp only [Try.f13, encN, bool, h0, h1, Bool.true_and, Bool.false_and, FinR, evRes, evRVs, evRV, am, simprocAttr, tys]
    exact ⟨_, [], [], rfl, Ent.plain rfl rfl rfl trivial rfl, rfl, rfl⟩
  rcases h2 : (x.t == y.t) with _ | _
  case' false =>
    simp only [Try.f13, encN, bool, h0, h1, h2, Bool.true_and, Bool.false_and, FinR, evRes, evRVs, evRV, am, simprocAttr, tys]
    exact ⟨_, [], [], rfl, Ent.plain rfl rfl rfl trivial rfl, rfl, rfl⟩
  rcases h3 : (x.v == y.v) with _ | _
  case' false =>
    simp only [Try.f13, encN, bool, h0, h1, h2, h3, Bool.true_and, Bool.false_and, FinR, evRes, evRVs, evRV, am, simprocAttr, tys]
    exact ⟨_, [], [], rfl, Ent.plain rfl rfl rfl trivial rfl, rfl, rfl⟩
  rcases h4 : (x.n == y.n) with _ | _
  case' false =>
    simp only [Try.f13, encN, bool, h0, h1, h2, h3, h4, Bool.true_and, Bool.false_and, FinR, evRes, evRVs, evRV, am, simprocAttr, tys]
    exact ⟨_, [], [], rfl, Ent.plain rfl rfl rfl trivial rfl, rfl, rfl⟩
  rcases h5 : (x.i == y.i) with _ | _
  case' false =>
    simp only [Try.f13, encN, bool, h0, h1, h2, h3, h4, h5, Bool.true_and, Bool.false_and, FinR, evRes, evRVs, evRV, am, simprocAttr, tys]
    exact ⟨_, [], [], rfl, Ent.plain rfl rfl rfl trivial rfl, rfl, rfl⟩
  rcases h6 : (x.s == y.s) with _ | _
  case' false =>
    simp only [Try.f13, encN, bool, h0, h1, h2, h3, h4, h5, h6, Bool.true_and, Bool.false_and, FinR, evRes, evRVs, evRV, am, simprocAttr, tys]
    exact ⟨_, [], [], rfl, Ent.plain rfl rfl rfl trivial rfl, rfl, rfl⟩
  rcases h7 : (x.ld == y.ld) with _ | _
  case' false =>
    simp only [Try.f13, encN, bool, h0, h1, h2, h3, h4, h5, h6, h7, Bool.true_and, Bool.false_and, FinR, evRes, evRVs, evRV, am, simprocAttr, tys]
    exact ⟨_, [], [], rfl, Ent.plain rfl rfl rfl trivial rfl, rfl, rfl⟩
  rcases h8 : lvB x y with _ | _
  all_goals rw [h8] at hc
  case' false =>
    simp only [Try.f13, encN, bool, h0, h1, h2, h3, h4, h5, h6, h7, hc, Bool.true_and, Bool.false_and, FinR, evRes, evRVs, evRV, am, simprocAttr, tys]
    exact ⟨_, [], [], rfl, Ent.plain rfl rfl rfl trivial rfl, rfl, rfl⟩
  simp only [Try.f13, encN, h0, h1, h2, h3, h4, h5, h6, h7, hc, Bool.true_and, am, simprocAttr, tys]
  refine ACall.of (equalE x.log y.log hx.hl hy.hl hx.he hy.he) [] [] rfl (by simp) (by simp) (by simp) (by repeat' (first | exact trivial | exact .inl rfl | exact .inr rfl | exact .inr ⟨rfl, rfl, rfl, by simp; done⟩ | exact .inr ⟨rfl, by simp; done⟩ | exact .inr ⟨rfl, rfl, by simp; done⟩ | apply And.intro)) (by repeat' (first | exact trivial | rfl | exact (tkC_ren.1 _ _).symm | (simp; done) | apply And.intro)) (by first | exact .inl rfl | (refine .inr ⟨trivial, ?_⟩; first | (intro row h; rcases List.mem_singleton.1 h with rfl; exact nvB _) | (intro row h; cases h; done) | (simp; done)) | (refine .inr ⟨by simp [nvP, nvP.nvPs, nvD, nilS, errno], ?_⟩; first | (intro row h; rcases List.mem_singleton.1 h with rfl; exact nvB _) | (intro row h; cases h; done) | (simp [nvRow, nvD, nvP]; done))) ?_
  simp only [bool, FinR, evRes, evRVs, evRV, am, simprocAttr, tys]
  exact ⟨_, [], [], rfl, Ent.plain rfl rfl rfl trivial rfl, rfl, rfl⟩

set_option maxRecDepth 8000 in
set_option maxHeartbeats 2000000 in
theorem refNSame (x y : NT) (hx : FitN x) (hy : FitN y) : AFun Try.prog 17 [.d (.agg (encN x)), .d (.agg (encN y))] [] (bool (sameN x y)) [] := by
  refine AFun.of_walk hP Try.func17 rfl rfl rfl (by simp) rfl ?_
  have hc := lv_cells x y
  unfold sameN
  rcases h0 : ((x.k.toNat : Int) == (y.k.toNat : Int)) with _ | _
  case' false =>
    simp only [Try.f17, encN, bool, h0, Bool.true_and, Bool.false_and, FinR, evRes, evRVs, evRV, am, simprocAttr, tys]
    exact ⟨_, [], [], rfl, Ent.plain rfl rfl rfl trivial rfl, rfl, rfl⟩
  rcases h1 : (x.f == y.f) with _ | _
  case' false =>
    simp only [Try.f17, encN, bool, h0, h1, Bool.true_and, Bool.false_and, FinR, evRes, evRVs, evRV, am, simprocAttr, tys]
    exact ⟨_, [], [], rfl, Ent.plain rfl rfl rfl trivial rfl, rfl, rfl⟩
  rcases h2 : (x.t == y.t) with _ | _
  case' false =>
    simp only [Try.f17, encN, bool, h0, h1, h2, Bool.true_and, Bool.false_and, FinR, evRes, evRVs, evRV, am, simprocAttr, tys]
    exact ⟨_, [], [], rfl, Ent.plain rfl rfl rfl trivial rfl, rfl, rfl⟩
  rcases h3 : (x.v == y.v) with _ | _
  case' false =>
    simp only [Try.f17, encN, bool, h0, h1, h2, h3, Bool.true_and, Bool.false_and, FinR, evRes, evRVs, evRV, am, simprocAttr, tys]
    exact ⟨_, [], [], rfl, Ent.plain rfl rfl rfl trivial rfl, rfl, rfl⟩
  rcases h4 : (x.n == y.n) with _ | _
  case' false =>
    simp only [Try.f17, encN, bool, h0, h1, h2, h3, h4, Bool.true_and, Bool.false_and, FinR, evRes, evRVs, evRV, am, simprocAttr, tys]
    exact ⟨_, [], [], rfl, Ent.plain rfl rfl rfl trivial rfl, rfl, rfl⟩
  rcases h5 : (x.i == y.i) with _ | _
  case' false =>
    simp only [Try.f17, encN, bool, h0, h1, h2, h3, h4, h5, Bool.true_and, Bool.false_and, FinR, evRes, evRVs, evRV, am, simprocAttr, tys]
    exact ⟨_, [], [], rfl, Ent.plain rfl rfl rfl trivial rfl, rfl, rfl⟩
  rcases h6 : (x.s == y.s) with _ | _
  case' false =>
    simp only [Try.f17, encN, bool, h0, h1, h2, h3, h4, h5, h6, Bool.true_and, Bool.false_and, FinR, evRes, evRVs, evRV, am, simprocAttr, tys]
    exact ⟨_, [], [], rfl, Ent.plain rfl rfl rfl trivial rfl, rfl, rfl⟩
  rcases h7 : (x.ld == y.ld) with _ | _
  case' false =>
    simp only [Try.f17, encN, bool, h0, h1, h2, h3, h4, h5, h6, h7, Bool.true_and, Bool.false_and, FinR, evRes, evRVs, evRV, am, simprocAttr, tys]
    exact ⟨_, [], [], rfl, Ent.plain rfl rfl rfl trivial rfl, rfl, rfl⟩
  rcases h8 : lvB x y with _ | _
  all_goals rw [h8] at hc
  case' false =>
    simp only [Try.f17, encN, bool, h0, h1, h2, h3, h4, h5, h6, h7, hc, Bool.true_and, Bool.false_and, FinR, evRes, evRVs, evRV, am, simprocAttr, tys]
    exact ⟨_, [], [], rfl, Ent.plain rfl rfl rfl trivial rfl, rfl, rfl⟩
  rcases hl : ((x.log.length : Int) == (y.log.length : Int)) with _ | _
  · have hne : decide (x.log = y.log) = false := decide_eq_false fun e => by rw [e] at hl; simp at hl
    simp only [Try.f17, encN, h0, h1, h2, h3, h4, h5, h6, h7, hc, hl, hne, bool, List.length_map, Bool.true_and, FinR, evRes, evRVs, evRV, am, simprocAttr, tys]
    exact ⟨_, [], [], rfl, Ent.plain rfl rfl rfl trivial rfl, rfl, rfl⟩
  have hll : x.log.length = y.log.length := by have := eq_of_beq hl; omega
  have hpe : prefB x.log y.log = decide (x.log = y.log) := by unfold prefB; rw [List.take_of_length_le (by omega)]
  simp only [Try.f17, encN, h0, h1, h2, h3, h4, h5, h6, h7, hc, hl, List.length_map, Bool.true_and, am, simprocAttr, tys]
  refine ACall.of (refPrefix x.log y.log hx.hl hy.hl hx.he hy.he) [] [] rfl (by simp) (by simp) (by simp) (by repeat' (first | exact trivial | exact .inl rfl | exact .inr rfl | exact .inr ⟨rfl, rfl, rfl, by simp; done⟩ | exact .inr ⟨rfl, by simp; done⟩ | exact .inr ⟨rfl, rfl, by simp; done⟩ | apply And.intro)) (by repeat' (first | exact trivial | rfl | exact (tkC_ren.1 _ _).symm | (simp; done) | apply And.intro)) (by first | exact .inl rfl | (refine .inr ⟨trivial, ?_⟩; first | (intro row h; rcases List.mem_singleton.1 h with rfl; exact nvB _) | (intro row h; cases h; done) | (simp; done)) | (refine .inr ⟨by simp [nvP, nvP.nvPs, nvD, nilS, errno], ?_⟩; first | (intro row h; rcases List.mem_singleton.1 h with rfl; exact nvB _) | (intro row h; cases h; done) | (simp [nvRow, nvD, nvP]; done))) ?_
  simp only [bool, hpe, FinR, evRes, evRVs, evRV, am, simprocAttr, tys]
  exact ⟨_, [], [], rfl, Ent.plain rfl rfl rfl trivial rfl, rfl, rfl⟩
end Go.Proofs.Ytflpphgccjlkjaa

set_option linter.unusedSimpArgs false
set_option linter.unusedVariables false
namespace Go.Proofs.Ytflpphgccjlkjaa
open Go Go.AM

theorem min1000 (n : Nat) : (if (1000 : Int) < n then (1000 : Int) else n) = ((min n 1000 : Nat) : Int) := by
  by_cases h : 1000 < n
  · rw [if_pos (by omega), Nat.min_eq_right (by omega)]; rfl
  · rw [if_neg (by omega), Nat.min_eq_left (by omega)]
theorem take_min (bs : List UInt8) (k : Nat) : bs.take (min bs.length k) = bs.take k := by
  rw [Nat.min_comm]; exact List.take_eq_take_min.symm
theorem putO_len {o : OpT} (h : FitI o) (hr : rightO o = true) : (putO o).length ≤ 920 := by
  unfold rightO at hr
  have l1 := lebI_len _ h.p1
  have l2 := lebI_len _ h.p2
  unfold putO
  by_cases k1 : o.1 = 1
  · rw [if_pos k1] at hr ⊢
    simp only [Bool.and_eq_true] at hr
    have := putLb_len hr.1
    simp; omega
  · rw [if_neg k1] at hr ⊢
    by_cases k3 : o.1 = 3
    · rw [if_pos k3]; simp; omega
    · rw [if_neg k3]
      by_cases k4 : o.1 = 4
      · rw [if_pos k4] at hr ⊢
        simp only [Bool.and_eq_true] at hr
        have := putA_len hr.1
        simp; omega
      · rw [if_neg k4]; simp
theorem same_self (o : OpT) : sameO o o = true := (sameO_iff o o).2 rfl
theorem right_zero : rightO zeroO = false := by decide
theorem fit_zero : FitI zeroO := ⟨⟨by decide, by decide, by simp [zeroO], by simp [zeroO]⟩, i64_0, i64_0⟩
end Go.Proofs.Ytflpphgccjlkjaa

set_option linter.unusedSimpArgs false
set_option linter.unusedVariables false
namespace Go.Proofs.Ytflpphgccjlkjaa
open Go Go.AM

def crcBit (s : BitVec 32) : BitVec 32 := (s <<< 1) ^^^ (79764919#32 * (s >>> 31))
def crcByte (s : BitVec 32) (b : UInt8) : BitVec 32 := Nat.repeat crcBit 8 (s ^^^ (b.toBitVec.setWidth 32 <<< 24))
def crcF (bs : List UInt8) : BitVec 32 := bs.foldl crcByte (BitVec.allOnes 32)
def crc (bs : List UInt8) : BitVec 32 := ~~~ crcF bs

theorem mulPoly (a : BitVec 32) : IntKind.u32.wrap (79764919 * (a.toNat : Int)) = (79764919#32 * a).toNat := by
  have := m32 79764919#32 a
  exact this

theorem crcF_succ (bs : List UInt8) (i : Nat) (h : i < bs.length) : crcF (bs.take (i + 1)) = crcByte (crcF (bs.take i)) bs[i] := by
  unfold crcF
  rw [List.take_succ_eq_append_getElem h, List.foldl_append]; rfl

theorem sealSum (bs : List UInt8) (hl : bs.length ≤ 9223372036854775807) : AFun Try.prog 53 [.d (.sl 1 (bs.map encB))] [] (w32 (crc bs)) [] := by
  refine AFun.of_walk hP Try.func53 rfl rfl rfl (by simp) rfl ?_
  simp only [Try.f53, am, simprocAttr, tys]
  refine ALoopW.intro 31 0 (ι := { i : Nat // i ≤ bs.length }) (fun i => [(3, w32 (crcF (bs.take i.1))), (7, .d (.sl 1 (bs.map encB))), (8, .d (.lit (.int .i64 bs.length))), (9, .d (.lit (.int .i64 i.1)))]) (fun _ => []) (fun i => bs.length - i.1) ⟨0, by omega⟩ [] [] ?_ (fun ⟨i, hi⟩ => ?_)
  · exact Ent.plain rfl rfl rfl ⟨.inr rfl, .inr rfl, .inr rfl, .inr rfl, trivial⟩ rfl
  simp only [w32, am, simprocAttr, tys]
  split
  · rename_i hlt
    have hlt' : i < bs.length := by simpa using hlt
    have hb : bs[i]? = some bs[i] := List.getElem?_eq_getElem hlt'
    simp only [hb, encB, Int.natCast_nonneg, cb_32, sl32, x32, am, simprocAttr, tys]
    refine ALoopW.intro 31 0 (ι := { k : Nat // k ≤ 8 }) (fun k => [(3, w32 (Nat.repeat crcBit k.1 (crcF (bs.take i) ^^^ (bs[i].toBitVec.setWidth 32 <<< 24)))), (7, .d (.sl 1 (bs.map encB))), (8, .d (.lit (.int .i64 bs.length))), (9, .d (.lit (.int .i64 i))), (18, .d (.lit (.int .i64 k.1)))]) (fun _ => []) (fun k => 8 - k.1) ⟨0, by omega⟩ [] [] ?_ (fun ⟨k, hk⟩ => ?_)
    · exact Ent.plain rfl rfl rfl ⟨.inr rfl, .inr rfl, .inr rfl, .inr rfl, .inr rfl, trivial⟩ rfl
    simp only [w32, sr32, sl32, mulPoly, x32, am, simprocAttr, tys]
    split
    · rename_i hk8
      have hk' : k < 8 := by have := of_decide_eq_true hk8; omega
      have e1 : IntKind.i64.wrap ((k : Int) + 1) = ((k + 1 : Nat) : Int) := by rw [IntWalk.i64_in _ (by omega)]; simp
      rw [e1]
      exact ⟨⟨k + 1, by omega⟩, [], [], Ent.plain rfl rfl rfl ⟨.inr rfl, .inr rfl, .inr rfl, .inr rfl, .inr rfl, trivial⟩ rfl, by show 8 - (k + 1) < 8 - k; omega⟩
    · rename_i hk8
      have hk' : k = 8 := by
        have : ¬ ((k : Int) < 8) := fun h => hk8 (decide_eq_true h)
        omega
      subst hk'
      have e1 : IntKind.i64.wrap ((i : Int) + 1) = ((i + 1 : Nat) : Int) := by rw [IntWalk.i64_in _ (by omega)]; simp
      have e2 : Nat.repeat crcBit 8 (crcF (bs.take i) ^^^ (bs[i].toBitVec.setWidth 32 <<< 24)) = crcF (bs.take (i + 1)) := (crcF_succ bs i hlt').symm
      rw [e1, e2]
      exact ⟨⟨i + 1, by omega⟩, [], [], Ent.plain rfl rfl rfl ⟨.inr rfl, .inr rfl, .inr rfl, .inr rfl, trivial⟩ rfl, by show bs.length - (i + 1) < bs.length - i; omega⟩
  · rename_i hlt
    have hi' : i = bs.length := by
      have : ¬ ((i : Int) < bs.length) := fun h => hlt (decide_eq_true h)
      omega
    subst hi'
    simp only [List.take_length, not32, FinR, evRes, evRVs, evRV, am, simprocAttr, tys]
    exact ⟨_, [], [], rfl, Ent.plain rfl rfl rfl trivial rfl, rfl, rfl⟩
end Go.Proofs.Ytflpphgccjlkjaa

set_option linter.unusedSimpArgs false
set_option linter.unusedVariables false
namespace Go.Proofs.Ytflpphgccjlkjaa
open Go Go.AM

def be32 (x : BitVec 32) : List UInt8 := [⟨(x >>> 24).setWidth 8⟩, ⟨(x >>> 16).setWidth 8⟩, ⟨(x >>> 8).setWidth 8⟩, ⟨x.setWidth 8⟩]
def sealed (bs : List UInt8) : List UInt8 := (leb bs.length ++ bs) ++ be32 (crc (leb bs.length ++ bs))

theorem sealPut (bs : List UInt8) (hl : bs.length ≤ 1000000000000) :
    AFun Try.prog 26 [.d (.sl 1 (bs.map encB))] [] (.own 0) [.own 1 ((sealed bs).map encB)] := by
  have hlen := leb_len 9 bs.length (by omega)
  refine AFun.of_walk hP Try.func26 rfl rfl rfl (by simp) rfl ?_
  have e1 : IntKind.u64.wrap (bs.length : Int) = bs.length := IntWalk.u64_in _ (by omega)
  simp only [Try.f26, e1, am, simprocAttr, tys]
  refine ACall.of (octsPut [] bs.length (by simp) (by omega)) [] [] rfl (by simp) (by simp) (by simp) ⟨.inr rfl, .inl rfl, trivial⟩ trivial (.inl rfl) ?_
  simp only [am, simprocAttr, tys]
  refine ⟨by omega, ?_⟩
  rw [← List.map_append]
  refine ACall.of (sealSum (leb bs.length ++ bs) (by simp; omega)) [] [1] rfl (by simp) (by simp) (by simp) ⟨.inr ⟨rfl, by simp⟩, trivial⟩ trivial (.inr ⟨trivial, by simp⟩) ?_
  simp only [w32, sr32, c32_8, FinR, evRes, evRVs, evRV, am, simprocAttr, tys]
  refine ⟨by omega, ?_⟩
  refine ⟨_, [], [3], rfl, ⟨rfl, rfl, Nat.zero_le _, fun i hi => by omega, trivial, ⟨.inr ⟨by decide, ?_⟩, trivial⟩, rfl, by decide, rfl, rfl⟩, rfl, rfl⟩
  simp only [sealed, be32, List.map_append]; rfl

theorem sealed_len (bs : List UInt8) : (sealed bs).length = (leb bs.length).length + bs.length + 4 := by simp [sealed, be32]; omega
end Go.Proofs.Ytflpphgccjlkjaa

set_option linter.unusedSimpArgs false
set_option linter.unusedVariables false
namespace Go.Proofs.Ytflpphgccjlkjaa
open Go Go.AM

/-! ## the sum is linear -/
theorem crcBit_msb (s : BitVec 32) : crcBit s = (s <<< 1) ^^^ (if s.msb then 79764919#32 else 0#32) := by
  unfold crcBit
  congr 1
  have h : s >>> 31 = if s.msb then 1#32 else 0#32 := by
    apply BitVec.eq_of_toNat_eq
    rw [BitVec.toNat_ushiftRight, Nat.shiftRight_eq_div_pow, BitVec.msb_eq_decide]
    have := s.isLt
    by_cases hb : 2 ^ (32 - 1) ≤ s.toNat
    · simp only [hb, decide_true, if_true]
      show s.toNat / 2147483648 = 1
      omega
    · simp only [hb, decide_false]
      show s.toNat / 2147483648 = 0
      omega
  rw [h]
  split <;> rfl

theorem crcBit_xor (a b : BitVec 32) : crcBit (a ^^^ b) = crcBit a ^^^ crcBit b := by
  rw [crcBit_msb, crcBit_msb, crcBit_msb, BitVec.msb_xor, BitVec.shiftLeft_xor_distrib]
  generalize a <<< 1 = A
  generalize b <<< 1 = B
  cases a.msb <;> cases b.msb <;> simp only [Bool.xor_false, Bool.false_xor, Bool.xor_true, Bool.not_true, Bool.true_xor, if_true, Bool.false_eq_true, if_false, BitVec.xor_zero]
  · ac_rfl
  · ac_rfl
  · rw [show A ^^^ 79764919#32 ^^^ (B ^^^ 79764919#32) = (A ^^^ B) ^^^ (79764919#32 ^^^ 79764919#32) from by ac_rfl, BitVec.xor_self, BitVec.xor_zero]

theorem rep_xor (n : Nat) (a b : BitVec 32) : Nat.repeat crcBit n (a ^^^ b) = Nat.repeat crcBit n a ^^^ Nat.repeat crcBit n b := by
  induction n with
  | zero => rfl
  | succ n ih => simp only [Nat.repeat]; rw [ih, crcBit_xor]

def emb (b : UInt8) : BitVec 32 := b.toBitVec.setWidth 32 <<< 24
theorem emb_xor (a b : UInt8) : emb (a ^^^ b) = emb a ^^^ emb b := by
  unfold emb
  rw [UInt8.toBitVec_xor, BitVec.setWidth_xor, BitVec.shiftLeft_xor_distrib]

theorem xor6 (a b c d e f : BitVec 32) : (a ^^^ d) ^^^ (b ^^^ e) ^^^ (c ^^^ f) = (a ^^^ b ^^^ c) ^^^ (d ^^^ e ^^^ f) := by
  ac_rfl

theorem crcByte_xor (s t u : BitVec 32) (a b c : UInt8) : crcByte s a ^^^ crcByte t b ^^^ crcByte u c = crcByte (s ^^^ t ^^^ u) (a ^^^ b ^^^ c) := by
  show Nat.repeat crcBit 8 (s ^^^ emb a) ^^^ Nat.repeat crcBit 8 (t ^^^ emb b) ^^^ Nat.repeat crcBit 8 (u ^^^ emb c) = Nat.repeat crcBit 8 ((s ^^^ t ^^^ u) ^^^ emb (a ^^^ b ^^^ c))
  rw [← rep_xor, ← rep_xor, xor6, emb_xor, emb_xor]

theorem fold_xor (l : List (UInt8 × UInt8 × UInt8)) : ∀ (s t u : BitVec 32), (l.map (·.1)).foldl crcByte s ^^^ (l.map (·.2.1)).foldl crcByte t ^^^ (l.map (·.2.2)).foldl crcByte u =
    (l.map fun x => x.1 ^^^ x.2.1 ^^^ x.2.2).foldl crcByte (s ^^^ t ^^^ u) := by
  induction l with
  | nil => intro s t u; rfl
  | cons x l ih => intro s t u; simp only [List.map_cons, List.foldl_cons]; rw [ih, crcByte_xor]

theorem not_xor3 (a b c : BitVec 32) : ~~~a ^^^ ~~~b ^^^ ~~~c = ~~~(a ^^^ b ^^^ c) := by
  rw [← BitVec.allOnes_xor, ← BitVec.allOnes_xor, ← BitVec.allOnes_xor, ← BitVec.allOnes_xor, xor6]
  simp

theorem crc_xor (l : List (UInt8 × UInt8 × UInt8)) : crc (l.map (·.1)) ^^^ crc (l.map (·.2.1)) ^^^ crc (l.map (·.2.2)) = crc (l.map fun x => x.1 ^^^ x.2.1 ^^^ x.2.2) := by
  unfold crc
  rw [not_xor3]
  unfold crcF
  rw [fold_xor]
  simp
end Go.Proofs.Ytflpphgccjlkjaa

set_option linter.unusedSimpArgs false
set_option linter.unusedVariables false
namespace Go.Proofs.Ytflpphgccjlkjaa
open Go Go.AM

theorem mul16 (b : UInt8) : IntKind.u32.wrap (((b.toBitVec.setWidth 32).toNat : Int) * 16777216) = ((b.toBitVec.setWidth 32 <<< 24).toNat : Int) := by
  have := sl32 (b.toBitVec.setWidth 32) 24
  exact this

theorem bitLow (s : BitVec 32) (h : ((s.toNat : Nat) : Int) < 2147483648) : IntKind.u32.wrap (2 * (s.toNat : Int)) = ((crcBit s).toNat : Int) := by
  have hm : s.msb = false := by rw [BitVec.msb_eq_decide]; simp; omega
  rw [crcBit_msb, hm]
  simp only [Bool.false_eq_true, if_false, BitVec.xor_zero]
  rw [IntKind.wrap_u32, BitVec.toNat_shiftLeft, Nat.shiftLeft_eq]; omega

theorem bitHigh (s : BitVec 32) (h : ¬ ((s.toNat : Nat) : Int) < 2147483648) : evBits .xor .u32 (IntKind.u32.wrap (2 * IntKind.u32.wrap ((s.toNat : Int) - 2147483648))) 79764919 = ((crcBit s).toNat : Int) := by
  have hs := s.isLt
  have hm : s.msb = true := by rw [BitVec.msb_eq_decide]; simp; omega
  rw [crcBit_msb, hm]
  simp only [if_true]
  rw [IntWalk.u32_in ((s.toNat : Int) - 2147483648) (by omega)]
  have e : IntKind.u32.wrap (2 * ((s.toNat : Int) - 2147483648)) = ((s <<< 1).toNat : Int) := by
    rw [IntKind.wrap_u32, BitVec.toNat_shiftLeft, Nat.shiftLeft_eq]; omega
  rw [e]
  exact x32 (s <<< 1) 79764919#32

theorem notX (s : BitVec 32) : evBits .xor .u32 (s.toNat : Int) 4294967295 = ((~~~s).toNat : Int) := by
  have := x32 s (BitVec.allOnes 32)
  rw [BitVec.xor_allOnes] at this
  exact this

theorem refSum (bs : List UInt8) (hl : bs.length ≤ 9223372036854775807) : AFun Try.prog 57 [.d (.sl 1 (bs.map encB))] [] (w32 (crc bs)) [] := by
  refine AFun.of_walk hP Try.func57 rfl rfl rfl (by simp) rfl ?_
  simp only [Try.f57, am, simprocAttr, tys]
  refine ALoopW.intro 34 0 (ι := { i : Nat // i ≤ bs.length }) (fun i => [(3, w32 (crcF (bs.take i.1))), (0, .d (.sl 1 (bs.map encB))), (4, .d (.lit (.int .i64 i.1)))]) (fun _ => []) (fun i => bs.length - i.1) ⟨0, by omega⟩ [] [] ?_ (fun ⟨i, hi⟩ => ?_)
  · exact Ent.plain rfl rfl rfl ⟨.inr rfl, .inr rfl, .inr rfl, trivial⟩ rfl
  simp only [w32, am, simprocAttr, tys]
  split
  · rename_i hlt
    have hlt' : i < bs.length := by have := of_decide_eq_true hlt; omega
    have hb : bs[i]? = some bs[i] := List.getElem?_eq_getElem hlt'
    simp only [hb, encB, Int.natCast_nonneg, cb_32, mul16, x32, am, simprocAttr, tys]
    refine ALoopW.intro 34 0 (ι := { k : Nat // k ≤ 8 }) (fun k => [(3, w32 (Nat.repeat crcBit k.1 (crcF (bs.take i) ^^^ (bs[i].toBitVec.setWidth 32 <<< 24)))), (0, .d (.sl 1 (bs.map encB))), (4, .d (.lit (.int .i64 i))), (5, .d (.lit (.int .i64 k.1)))]) (fun _ => []) (fun k => 8 - k.1) ⟨0, by omega⟩ [] [] ?_ (fun ⟨k, hk⟩ => ?_)
    · exact Ent.plain rfl rfl rfl ⟨.inr rfl, .inr rfl, .inr rfl, .inr rfl, trivial⟩ rfl
    have hX2 : Nat.repeat crcBit (k + 1) (crcF (bs.take i) ^^^ (bs[i].toBitVec.setWidth 32 <<< 24)) = crcBit (Nat.repeat crcBit k (crcF (bs.take i) ^^^ (bs[i].toBitVec.setWidth 32 <<< 24))) := rfl
    have hem : ∀ p : Prop, p ∨ ¬ p := Classical.em
    generalize hX : Nat.repeat crcBit k (crcF (bs.take i) ^^^ (bs[i].toBitVec.setWidth 32 <<< 24)) = X at hX2 ⊢
    have e1 : k < 8 → IntKind.i64.wrap ((k : Int) + 1) = ((k + 1 : Nat) : Int) := fun h => by rw [IntWalk.i64_in _ (by omega)]; simp
    rcases hem (k < 8) with hk' | hk'
    · have hk8 : ((k : Int) < 8) := by omega
      rcases hem (((X.toNat : Nat) : Int) < 2147483648) with hlo | hlo
      · simp only [w32, hX, hk8, hlo, e1 hk', bitLow X hlo, am, simprocAttr, tys]
        rw [← hX2]
        exact ⟨⟨k + 1, by omega⟩, [], [], Ent.plain rfl rfl rfl ⟨.inr rfl, .inr rfl, .inr rfl, .inr rfl, trivial⟩ rfl, by show 8 - (k + 1) < 8 - k; omega⟩
      · simp only [w32, hX, hk8, hlo, e1 hk', bitHigh X hlo, am, simprocAttr, tys]
        rw [← hX2]
        exact ⟨⟨k + 1, by omega⟩, [], [], Ent.plain rfl rfl rfl ⟨.inr rfl, .inr rfl, .inr rfl, .inr rfl, trivial⟩ rfl, by show 8 - (k + 1) < 8 - k; omega⟩
    · have hk8 : ¬ ((k : Int) < 8) := by omega
      have hk'' : k = 8 := by omega
      have e1 : IntKind.i64.wrap ((i : Int) + 1) = ((i + 1 : Nat) : Int) := by rw [IntWalk.i64_in _ (by omega)]; simp
      have e2 : X = crcF (bs.take (i + 1)) := by rw [← hX, hk'']; exact (crcF_succ bs i hlt').symm
      simp only [w32, hX, hk8, e1, e2, am, simprocAttr, tys]
      exact ⟨⟨i + 1, by omega⟩, [], [], Ent.plain rfl rfl rfl ⟨.inr rfl, .inr rfl, .inr rfl, trivial⟩ rfl, by show bs.length - (i + 1) < bs.length - i; omega⟩
  · rename_i hlt
    have hi' : i = bs.length := by
      have : ¬ ((i : Int) < bs.length) := fun h => hlt (decide_eq_true h)
      omega
    subst hi'
    simp only [List.take_length, notX, FinR, evRes, evRVs, evRV, am, simprocAttr, tys]
    exact ⟨_, [], [], rfl, Ent.plain rfl rfl rfl trivial rfl, rfl, rfl⟩

/-! ## the document's bytes -/
theorem by24 (x : BitVec 32) : IntKind.u8.wrap (IntKind.u32.wrap ((x.toNat : Int).tdiv 16777216)) = (((x >>> 24).setWidth 8).toNat : Int) := by
  have e : (x.toNat : Int).tdiv 16777216 = ((x.toNat / 16777216 : Nat) : Int) := rfl
  have h := x.isLt
  rw [e, IntWalk.u32_in _ (by omega), IntKind.wrap_u8, BitVec.toNat_setWidth, BitVec.toNat_ushiftRight, Nat.shiftRight_eq_div_pow]; omega
theorem by16 (x : BitVec 32) : IntKind.u8.wrap ((IntKind.u32.wrap ((x.toNat : Int).tdiv 65536)).tmod 256) = (((x >>> 16).setWidth 8).toNat : Int) := by
  have e : (x.toNat : Int).tdiv 65536 = ((x.toNat / 65536 : Nat) : Int) := rfl
  have h := x.isLt
  rw [e, IntWalk.u32_in _ (by omega)]
  have e2 : ((x.toNat / 65536 : Nat) : Int).tmod 256 = ((x.toNat / 65536 % 256 : Nat) : Int) := rfl
  rw [e2, IntKind.wrap_u8, BitVec.toNat_setWidth, BitVec.toNat_ushiftRight, Nat.shiftRight_eq_div_pow]; omega
theorem by8 (x : BitVec 32) : IntKind.u8.wrap ((IntKind.u32.wrap ((x.toNat : Int).tdiv 256)).tmod 256) = (((x >>> 8).setWidth 8).toNat : Int) := by
  have e : (x.toNat : Int).tdiv 256 = ((x.toNat / 256 : Nat) : Int) := rfl
  have h := x.isLt
  rw [e, IntWalk.u32_in _ (by omega)]
  have e2 : ((x.toNat / 256 : Nat) : Int).tmod 256 = ((x.toNat / 256 % 256 : Nat) : Int) := rfl
  rw [e2, IntKind.wrap_u8, BitVec.toNat_setWidth, BitVec.toNat_ushiftRight, Nat.shiftRight_eq_div_pow]; omega
theorem by0 (x : BitVec 32) : IntKind.u8.wrap ((x.toNat : Int).tmod 256) = ((x.setWidth 8).toNat : Int) := by
  have e2 : (x.toNat : Int).tmod 256 = ((x.toNat % 256 : Nat) : Int) := rfl
  rw [e2, IntKind.wrap_u8, BitVec.toNat_setWidth]; omega

theorem refSPut (bs : List UInt8) (hl : bs.length ≤ 1000000000000) :
    AFun Try.prog 29 [.d (.sl 1 (bs.map encB))] [] (.own 0) [.own 1 ((sealed bs).map encB)] := by
  have hlen := leb_len 9 bs.length (by omega)
  refine AFun.of_walk hP Try.func29 rfl rfl rfl (by simp) rfl ?_
  have e1 : IntKind.u64.wrap (bs.length : Int) = bs.length := IntWalk.u64_in _ (by omega)
  simp only [Try.f29, e1, am, simprocAttr, tys]
  refine ACall.of (refPut [] bs.length (by simp) (by omega)) [] [] rfl (by simp) (by simp) (by simp) ⟨.inr rfl, .inl rfl, trivial⟩ trivial (.inl rfl) ?_
  simp only [am, simprocAttr, tys]
  refine ⟨by omega, ?_⟩
  rw [← List.map_append]
  refine ACall.of (refSum (leb bs.length ++ bs) (by simp; omega)) [] [1] rfl (by simp) (by simp) (by simp) ⟨.inr ⟨rfl, by simp⟩, trivial⟩ trivial (.inr ⟨trivial, by simp⟩) ?_
  simp only [w32, by24, by16, by8, by0, FinR, evRes, evRVs, evRV, am, simprocAttr, tys]
  refine ⟨by omega, ?_⟩
  refine ⟨_, [], [3], rfl, ⟨rfl, rfl, Nat.zero_le _, fun i hi => by omega, trivial, ⟨.inr ⟨by decide, ?_⟩, trivial⟩, rfl, by decide, rfl, rfl⟩, rfl, rfl⟩
  simp only [sealed, be32, List.map_append]; rfl
end Go.Proofs.Ytflpphgccjlkjaa
