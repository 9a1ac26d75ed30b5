/- Proved here: what the functions of the program compute. No condition. -/
import Derived.Test.YtflpphgccjlkjaaG7
import Derived.Test.YtflpphgccjlkjaaG4
import Derived.Test.YtflpphgccjlkjaaG6
set_option linter.all false
set_option linter.unusedSimpArgs false
set_option linter.unusedVariables false
set_option linter.unusedSimpArgs false
set_option linter.unusedVariables false
namespace Go.Proofs.Ytflpphgccjlkjaa
open Go Go.AM

theorem placeB_eq (n : Int) : placeB n = (!(decide (n < 0)) && !(decide (7 ≤ n))) := by
  unfold placeB
  rcases Int.lt_or_le n 0 with h | h
  · rw [decide_eq_false (by omega), decide_eq_true h]; rfl
  · rw [decide_eq_true h, decide_eq_false (by omega : ¬ n < 0)]
    rcases Int.lt_or_le n 7 with q | q
    · rw [decide_eq_true q, decide_eq_false (by omega : ¬ 7 ≤ n)]; rfl
    · rw [decide_eq_false (by omega), decide_eq_true q]; rfl
theorem fitsB_cons (a n : Int) (l : List Int) : fitsB a (n :: l) = (!(outB a n) && fitsB a l) := by simp [fitsB]
theorem fitsB_nil (a : Int) : fitsB a [] = true := rfl
def lvI (x : NT) : List Int := [x.l0, x.l1, x.l2, x.l3, x.l4, x.l5, x.l6]
theorem mayE_eq (e : EntT) : mayE e = (!(decide (e.1 < 0)) && (!(decide (8 ≤ e.1)) && (!(decide (e.2.1 < 1)) && (!(outB 0 e.2.1) && rightO e.2.2.1)))) := by
  unfold mayE
  rw [fitsB_cons, fitsB_nil, Bool.and_true]
  have h1 : decide (0 ≤ e.1) = !(decide (e.1 < 0)) := by
    rcases Int.lt_or_le e.1 0 with h | h
    · rw [decide_eq_false (by omega), decide_eq_true h]; rfl
    · rw [decide_eq_true h, decide_eq_false (by omega)]; rfl
  have h2 : decide (e.1 < 8) = !(decide (8 ≤ e.1)) := by
    rcases Int.lt_or_le e.1 8 with h | h
    · rw [decide_eq_true h, decide_eq_false (by omega)]; rfl
    · rw [decide_eq_false (by omega), decide_eq_true h]; rfl
  have h3 : (!(outB 1 e.2.1)) = (!(decide (e.2.1 < 1)) && !(outB 0 e.2.1)) := by
    unfold outB
    rcases Int.lt_or_le e.2.1 1 with h | h
    · rw [decide_eq_true h]; rfl
    · rw [decide_eq_false (by omega : ¬ e.2.1 < 1), decide_eq_false (by omega : ¬ e.2.1 < 0)]; rfl
  rw [h1, h2, h3, Bool.and_assoc]

set_option maxRecDepth 8000 in
set_option maxHeartbeats 4000000 in
theorem refNRight (x : NT) (h : FitN x) : AFun Try.prog 16 [.d (.agg (encN x))] [] (bool (rightN x)) [] := by
  refine AFun.of_walk hP Try.func16 rfl rfl rfl (by simp) rfl ?_
  unfold rightN headN numsN
  rw [placeB_eq, placeB_eq, fitsB_cons, fitsB_cons, fitsB_cons, fitsB_cons, fitsB_nil]
  rcases h1 : decide ((x.k.toNat : Int) < 1) with _ | _
  case' true =>
    simp only [Try.f16, encN, bool, h1, Bool.not_true, Bool.false_and, FinR, evRes, evRVs, evRV, am, simprocAttr, tys]
    exact ⟨_, [], [], rfl, Ent.plain rfl rfl rfl trivial rfl, rfl, rfl⟩
  rcases h2 : decide (6 < (x.k.toNat : Int)) with _ | _
  case' true =>
    simp only [Try.f16, encN, bool, h1, h2, Bool.not_true, Bool.not_false, Bool.true_and, Bool.false_and, FinR, evRes, evRVs, evRV, am, simprocAttr, tys]
    exact ⟨_, [], [], rfl, Ent.plain rfl rfl rfl trivial rfl, rfl, rfl⟩
  rcases h3 : decide (x.f < 0) with _ | _
  case' true =>
    simp only [Try.f16, encN, bool, h1, h2, h3, Bool.not_true, Bool.not_false, Bool.true_and, Bool.false_and, FinR, evRes, evRVs, evRV, am, simprocAttr, tys]
    exact ⟨_, [], [], rfl, Ent.plain rfl rfl rfl trivial rfl, rfl, rfl⟩
  rcases h4 : decide (7 ≤ x.f) with _ | _
  case' true =>
    simp only [Try.f16, encN, bool, h1, h2, h3, h4, Bool.not_true, Bool.not_false, Bool.true_and, Bool.false_and, FinR, evRes, evRVs, evRV, am, simprocAttr, tys]
    exact ⟨_, [], [], rfl, Ent.plain rfl rfl rfl trivial rfl, rfl, rfl⟩
  rcases h5 : decide (x.t < 0) with _ | _
  case' true =>
    simp only [Try.f16, encN, bool, h1, h2, h3, h4, h5, Bool.not_true, Bool.not_false, Bool.true_and, Bool.false_and, FinR, evRes, evRVs, evRV, am, simprocAttr, tys]
    exact ⟨_, [], [], rfl, Ent.plain rfl rfl rfl trivial rfl, rfl, rfl⟩
  rcases h6 : decide (7 ≤ x.t) with _ | _
  case' true =>
    simp only [Try.f16, encN, bool, h1, h2, h3, h4, h5, h6, Bool.not_true, Bool.not_false, Bool.true_and, Bool.false_and, FinR, evRes, evRVs, evRV, am, simprocAttr, tys]
    exact ⟨_, [], [], rfl, Ent.plain rfl rfl rfl trivial rfl, rfl, rfl⟩
  rcases h7 : x.f == x.t with _ | _
  case' true =>
    simp only [Try.f16, encN, bool, h1, h2, h3, h4, h5, h6, h7, Bool.not_true, Bool.not_false, Bool.true_and, Bool.false_and, FinR, evRes, evRVs, evRV, am, simprocAttr, tys]
    exact ⟨_, [], [], rfl, Ent.plain rfl rfl rfl trivial rfl, rfl, rfl⟩
  simp only [Try.f16, encN, h1, h2, h3, h4, h5, h6, h7, Bool.not_false, Bool.true_and, am, simprocAttr, tys]
  refine ACall.of (refFits x.v) [] [] rfl (by simp) (by simp) (by simp) (by repeat' (first | exact trivial | exact .inl rfl | exact .inr rfl | exact .inr ⟨rfl, rfl, rfl, by simp; done⟩ | exact .inr ⟨rfl, by simp; done⟩ | exact .inr ⟨rfl, rfl, by simp; done⟩ | apply And.intro)) (by repeat' (first | exact trivial | rfl | exact (tkC_ren.1 _ _).symm | (simp; done) | apply And.intro)) (by first | exact .inl rfl | (refine .inr ⟨trivial, ?_⟩; first | (intro row h; rcases List.mem_singleton.1 h with rfl; exact nvB _) | (intro row h; cases h; done) | (simp; done)) | (refine .inr ⟨by simp [nvP, nvP.nvPs, nvD, nilS, errno], ?_⟩; first | (intro row h; rcases List.mem_singleton.1 h with rfl; exact nvB _) | (intro row h; cases h; done) | (simp [nvRow, nvD, nvP]; done))) ?_
  rcases h8 : outB 0 x.v with _ | _
  case' true =>
    simp only [bool, Bool.not_true, Bool.false_and, FinR, evRes, evRVs, evRV, am, simprocAttr, tys]
    exact ⟨_, [], [], rfl, Ent.plain rfl rfl rfl trivial rfl, rfl, rfl⟩
  simp only [bool, Bool.not_false, Bool.true_and, am, simprocAttr, tys]
  refine ACall.of (refFits x.n) [] [] rfl (by simp) (by simp) (by simp) (by repeat' (first | exact trivial | exact .inl rfl | exact .inr rfl | exact .inr ⟨rfl, rfl, rfl, by simp; done⟩ | exact .inr ⟨rfl, by simp; done⟩ | exact .inr ⟨rfl, rfl, by simp; done⟩ | apply And.intro)) (by repeat' (first | exact trivial | rfl | exact (tkC_ren.1 _ _).symm | (simp; done) | apply And.intro)) (by first | exact .inl rfl | (refine .inr ⟨trivial, ?_⟩; first | (intro row h; rcases List.mem_singleton.1 h with rfl; exact nvB _) | (intro row h; cases h; done) | (simp; done)) | (refine .inr ⟨by simp [nvP, nvP.nvPs, nvD, nilS, errno], ?_⟩; first | (intro row h; rcases List.mem_singleton.1 h with rfl; exact nvB _) | (intro row h; cases h; done) | (simp [nvRow, nvD, nvP]; done))) ?_
  rcases h9 : outB 0 x.n with _ | _
  case' true =>
    simp only [bool, Bool.not_true, Bool.false_and, FinR, evRes, evRVs, evRV, am, simprocAttr, tys]
    exact ⟨_, [], [], rfl, Ent.plain rfl rfl rfl trivial rfl, rfl, rfl⟩
  simp only [bool, Bool.not_false, Bool.true_and, am, simprocAttr, tys]
  refine ACall.of (refFits x.i) [] [] rfl (by simp) (by simp) (by simp) (by repeat' (first | exact trivial | exact .inl rfl | exact .inr rfl | exact .inr ⟨rfl, rfl, rfl, by simp; done⟩ | exact .inr ⟨rfl, by simp; done⟩ | exact .inr ⟨rfl, rfl, by simp; done⟩ | apply And.intro)) (by repeat' (first | exact trivial | rfl | exact (tkC_ren.1 _ _).symm | (simp; done) | apply And.intro)) (by first | exact .inl rfl | (refine .inr ⟨trivial, ?_⟩; first | (intro row h; rcases List.mem_singleton.1 h with rfl; exact nvB _) | (intro row h; cases h; done) | (simp; done)) | (refine .inr ⟨by simp [nvP, nvP.nvPs, nvD, nilS, errno], ?_⟩; first | (intro row h; rcases List.mem_singleton.1 h with rfl; exact nvB _) | (intro row h; cases h; done) | (simp [nvRow, nvD, nvP]; done))) ?_
  rcases h10 : outB 0 x.i with _ | _
  case' true =>
    simp only [bool, Bool.not_true, Bool.false_and, FinR, evRes, evRVs, evRV, am, simprocAttr, tys]
    exact ⟨_, [], [], rfl, Ent.plain rfl rfl rfl trivial rfl, rfl, rfl⟩
  simp only [bool, Bool.not_false, Bool.true_and, am, simprocAttr, tys]
  refine ACall.of (refFits x.s) [] [] rfl (by simp) (by simp) (by simp) (by repeat' (first | exact trivial | exact .inl rfl | exact .inr rfl | exact .inr ⟨rfl, rfl, rfl, by simp; done⟩ | exact .inr ⟨rfl, by simp; done⟩ | exact .inr ⟨rfl, rfl, by simp; done⟩ | apply And.intro)) (by repeat' (first | exact trivial | rfl | exact (tkC_ren.1 _ _).symm | (simp; done) | apply And.intro)) (by first | exact .inl rfl | (refine .inr ⟨trivial, ?_⟩; first | (intro row h; rcases List.mem_singleton.1 h with rfl; exact nvB _) | (intro row h; cases h; done) | (simp; done)) | (refine .inr ⟨by simp [nvP, nvP.nvPs, nvD, nilS, errno], ?_⟩; first | (intro row h; rcases List.mem_singleton.1 h with rfl; exact nvB _) | (intro row h; cases h; done) | (simp [nvRow, nvD, nvP]; done))) ?_
  rcases h11 : outB 0 x.s with _ | _
  case' true =>
    simp only [bool, Bool.not_true, Bool.false_and, FinR, evRes, evRVs, evRV, am, simprocAttr, tys]
    exact ⟨_, [], [], rfl, Ent.plain rfl rfl rfl trivial rfl, rfl, rfl⟩
  rcases h12 : decide (300 < (x.log.length : Int)) with _ | _
  case' true =>
    simp only [bool, h12, Bool.not_true, Bool.not_false, Bool.true_and, Bool.false_and, Bool.and_false, FinR, evRes, evRVs, evRV, am, simprocAttr, tys]
    exact ⟨_, [], [], rfl, Ent.plain rfl rfl rfl trivial rfl, rfl, rfl⟩
  simp only [bool, h12, Bool.not_false, Bool.true_and, Bool.and_true, am, simprocAttr, tys]
  refine ALoopW.intro 118 0 (ι := { i : Nat // i ≤ 7 ∧ ((lvI x).take i).all (fun n => !(outB 0 n)) = true }) (fun i => [(1, .ptr 0 0), (3, int i.1)]) (fun _ => [.box ((encN x).map .d)]) (fun i => 7 - i.1) ⟨0, by omega, rfl⟩ [] [0] ?_ (fun ⟨i, hi, hall⟩ => ?_)
  · exact ⟨rfl, rfl, by simp, (fun i hi => absurd hi (Nat.not_lt_zero _)), ⟨.inr rfl, .inr rfl, trivial⟩, ⟨.inr ⟨by decide, rfl⟩, trivial⟩, rfl, by decide, rfl, (by first | rfl | simp [scRow, tkC_scs])⟩
  simp only
  rcases Nat.lt_or_ge i 7 with hlt | hge
  · have hfs : ∀ (j : Nat) (hj : j < (lvI x).length), outB 0 (lvI x)[j] = true → fitsB 0 [x.l0, x.l1, x.l2, x.l3, x.l4, x.l5, x.l6] = false := fun j hj ho => by
      unfold fitsB
      rw [Bool.not_eq_false', List.any_eq_true]
      exact ⟨_, List.getElem_mem hj, ho⟩
    have hnx : ∀ (j : Nat) (hj : j < (lvI x).length), outB 0 (lvI x)[j] = false → ((lvI x).take j).all (fun n => !(outB 0 n)) = true → ((lvI x).take (j + 1)).all (fun n => !(outB 0 n)) = true := fun j hj ho ha => by
      rw [List.take_succ_eq_append_getElem hj, List.all_append, ha, List.all_cons, ho]; rfl
    have w0 : IntKind.i64.wrap 1 = 1 := by decide
    have w1 : IntKind.i64.wrap 2 = 2 := by decide
    have w2 : IntKind.i64.wrap 3 = 3 := by decide
    have w3 : IntKind.i64.wrap 4 = 4 := by decide
    have w4 : IntKind.i64.wrap 5 = 5 := by decide
    have w5 : IntKind.i64.wrap 6 = 6 := by decide
    have w6 : IntKind.i64.wrap 7 = 7 := by decide
    rcases (by omega : i = 0 ∨ i = 1 ∨ i = 2 ∨ i = 3 ∨ i = 4 ∨ i = 5 ∨ i = 6) with rfl | rfl | rfl | rfl | rfl | rfl | rfl
    · simp only [int, encN, Int.cast_ofNat_Int, List.map_cons, List.map_nil, am, simprocAttr, tys]
      refine ACall.of (refFits x.l0) [] [] rfl (by simp) (by simp) (by simp) (by repeat' (first | exact trivial | exact .inl rfl | exact .inr rfl | exact .inr ⟨rfl, rfl, rfl, by simp; done⟩ | exact .inr ⟨rfl, by simp; done⟩ | exact .inr ⟨rfl, rfl, by simp; done⟩ | apply And.intro)) (by repeat' (first | exact trivial | rfl | exact (tkC_ren.1 _ _).symm | (simp; done) | apply And.intro)) (by first | exact .inl rfl | (refine .inr ⟨trivial, ?_⟩; first | (intro row h; rcases List.mem_singleton.1 h with rfl; exact nvB _) | (intro row h; cases h; done) | (simp; done)) | (refine .inr ⟨by simp [nvP, nvP.nvPs, nvD, nilS, errno], ?_⟩; first | (intro row h; rcases List.mem_singleton.1 h with rfl; exact nvB _) | (intro row h; cases h; done) | (simp [nvRow, nvD, nvP]; done))) ?_
      rcases ho : outB 0 x.l0 with _ | _
      · simp only [bool, w0, am, simprocAttr, tys]
        exact ⟨⟨1, by omega, hnx 0 (by show _ < 7; decide) ho hall⟩, [], [0], ⟨rfl, rfl, by simp, (fun i hi => absurd hi (Nat.not_lt_zero _)), ⟨.inr rfl, .inr rfl, trivial⟩, ⟨.inr ⟨by decide, rfl⟩, trivial⟩, rfl, by decide, rfl, (by first | rfl | simp [scRow, tkC_scs])⟩, by show 7 - 1 < 7 - 0; decide⟩
      · simp only [bool, hfs 0 (by show _ < 7; decide) ho, Bool.false_and, FinR, evRes, evRVs, evRV, am, simprocAttr, tys]
        exact ⟨_, [], [], rfl, Ent.plain rfl rfl rfl trivial rfl, rfl, rfl⟩
    · simp only [int, encN, Int.cast_ofNat_Int, List.map_cons, List.map_nil, am, simprocAttr, tys]
      refine ACall.of (refFits x.l1) [] [] rfl (by simp) (by simp) (by simp) (by repeat' (first | exact trivial | exact .inl rfl | exact .inr rfl | exact .inr ⟨rfl, rfl, rfl, by simp; done⟩ | exact .inr ⟨rfl, by simp; done⟩ | exact .inr ⟨rfl, rfl, by simp; done⟩ | apply And.intro)) (by repeat' (first | exact trivial | rfl | exact (tkC_ren.1 _ _).symm | (simp; done) | apply And.intro)) (by first | exact .inl rfl | (refine .inr ⟨trivial, ?_⟩; first | (intro row h; rcases List.mem_singleton.1 h with rfl; exact nvB _) | (intro row h; cases h; done) | (simp; done)) | (refine .inr ⟨by simp [nvP, nvP.nvPs, nvD, nilS, errno], ?_⟩; first | (intro row h; rcases List.mem_singleton.1 h with rfl; exact nvB _) | (intro row h; cases h; done) | (simp [nvRow, nvD, nvP]; done))) ?_
      rcases ho : outB 0 x.l1 with _ | _
      · simp only [bool, w1, am, simprocAttr, tys]
        exact ⟨⟨2, by omega, hnx 1 (by show _ < 7; decide) ho hall⟩, [], [0], ⟨rfl, rfl, by simp, (fun i hi => absurd hi (Nat.not_lt_zero _)), ⟨.inr rfl, .inr rfl, trivial⟩, ⟨.inr ⟨by decide, rfl⟩, trivial⟩, rfl, by decide, rfl, (by first | rfl | simp [scRow, tkC_scs])⟩, by show 7 - 2 < 7 - 1; decide⟩
      · simp only [bool, hfs 1 (by show _ < 7; decide) ho, Bool.false_and, FinR, evRes, evRVs, evRV, am, simprocAttr, tys]
        exact ⟨_, [], [], rfl, Ent.plain rfl rfl rfl trivial rfl, rfl, rfl⟩
    · simp only [int, encN, Int.cast_ofNat_Int, List.map_cons, List.map_nil, am, simprocAttr, tys]
      refine ACall.of (refFits x.l2) [] [] rfl (by simp) (by simp) (by simp) (by repeat' (first | exact trivial | exact .inl rfl | exact .inr rfl | exact .inr ⟨rfl, rfl, rfl, by simp; done⟩ | exact .inr ⟨rfl, by simp; done⟩ | exact .inr ⟨rfl, rfl, by simp; done⟩ | apply And.intro)) (by repeat' (first | exact trivial | rfl | exact (tkC_ren.1 _ _).symm | (simp; done) | apply And.intro)) (by first | exact .inl rfl | (refine .inr ⟨trivial, ?_⟩; first | (intro row h; rcases List.mem_singleton.1 h with rfl; exact nvB _) | (intro row h; cases h; done) | (simp; done)) | (refine .inr ⟨by simp [nvP, nvP.nvPs, nvD, nilS, errno], ?_⟩; first | (intro row h; rcases List.mem_singleton.1 h with rfl; exact nvB _) | (intro row h; cases h; done) | (simp [nvRow, nvD, nvP]; done))) ?_
      rcases ho : outB 0 x.l2 with _ | _
      · simp only [bool, w2, am, simprocAttr, tys]
        exact ⟨⟨3, by omega, hnx 2 (by show _ < 7; decide) ho hall⟩, [], [0], ⟨rfl, rfl, by simp, (fun i hi => absurd hi (Nat.not_lt_zero _)), ⟨.inr rfl, .inr rfl, trivial⟩, ⟨.inr ⟨by decide, rfl⟩, trivial⟩, rfl, by decide, rfl, (by first | rfl | simp [scRow, tkC_scs])⟩, by show 7 - 3 < 7 - 2; decide⟩
      · simp only [bool, hfs 2 (by show _ < 7; decide) ho, Bool.false_and, FinR, evRes, evRVs, evRV, am, simprocAttr, tys]
        exact ⟨_, [], [], rfl, Ent.plain rfl rfl rfl trivial rfl, rfl, rfl⟩
    · simp only [int, encN, Int.cast_ofNat_Int, List.map_cons, List.map_nil, am, simprocAttr, tys]
      refine ACall.of (refFits x.l3) [] [] rfl (by simp) (by simp) (by simp) (by repeat' (first | exact trivial | exact .inl rfl | exact .inr rfl | exact .inr ⟨rfl, rfl, rfl, by simp; done⟩ | exact .inr ⟨rfl, by simp; done⟩ | exact .inr ⟨rfl, rfl, by simp; done⟩ | apply And.intro)) (by repeat' (first | exact trivial | rfl | exact (tkC_ren.1 _ _).symm | (simp; done) | apply And.intro)) (by first | exact .inl rfl | (refine .inr ⟨trivial, ?_⟩; first | (intro row h; rcases List.mem_singleton.1 h with rfl; exact nvB _) | (intro row h; cases h; done) | (simp; done)) | (refine .inr ⟨by simp [nvP, nvP.nvPs, nvD, nilS, errno], ?_⟩; first | (intro row h; rcases List.mem_singleton.1 h with rfl; exact nvB _) | (intro row h; cases h; done) | (simp [nvRow, nvD, nvP]; done))) ?_
      rcases ho : outB 0 x.l3 with _ | _
      · simp only [bool, w3, am, simprocAttr, tys]
        exact ⟨⟨4, by omega, hnx 3 (by show _ < 7; decide) ho hall⟩, [], [0], ⟨rfl, rfl, by simp, (fun i hi => absurd hi (Nat.not_lt_zero _)), ⟨.inr rfl, .inr rfl, trivial⟩, ⟨.inr ⟨by decide, rfl⟩, trivial⟩, rfl, by decide, rfl, (by first | rfl | simp [scRow, tkC_scs])⟩, by show 7 - 4 < 7 - 3; decide⟩
      · simp only [bool, hfs 3 (by show _ < 7; decide) ho, Bool.false_and, FinR, evRes, evRVs, evRV, am, simprocAttr, tys]
        exact ⟨_, [], [], rfl, Ent.plain rfl rfl rfl trivial rfl, rfl, rfl⟩
    · simp only [int, encN, Int.cast_ofNat_Int, List.map_cons, List.map_nil, am, simprocAttr, tys]
      refine ACall.of (refFits x.l4) [] [] rfl (by simp) (by simp) (by simp) (by repeat' (first | exact trivial | exact .inl rfl | exact .inr rfl | exact .inr ⟨rfl, rfl, rfl, by simp; done⟩ | exact .inr ⟨rfl, by simp; done⟩ | exact .inr ⟨rfl, rfl, by simp; done⟩ | apply And.intro)) (by repeat' (first | exact trivial | rfl | exact (tkC_ren.1 _ _).symm | (simp; done) | apply And.intro)) (by first | exact .inl rfl | (refine .inr ⟨trivial, ?_⟩; first | (intro row h; rcases List.mem_singleton.1 h with rfl; exact nvB _) | (intro row h; cases h; done) | (simp; done)) | (refine .inr ⟨by simp [nvP, nvP.nvPs, nvD, nilS, errno], ?_⟩; first | (intro row h; rcases List.mem_singleton.1 h with rfl; exact nvB _) | (intro row h; cases h; done) | (simp [nvRow, nvD, nvP]; done))) ?_
      rcases ho : outB 0 x.l4 with _ | _
      · simp only [bool, w4, am, simprocAttr, tys]
        exact ⟨⟨5, by omega, hnx 4 (by show _ < 7; decide) ho hall⟩, [], [0], ⟨rfl, rfl, by simp, (fun i hi => absurd hi (Nat.not_lt_zero _)), ⟨.inr rfl, .inr rfl, trivial⟩, ⟨.inr ⟨by decide, rfl⟩, trivial⟩, rfl, by decide, rfl, (by first | rfl | simp [scRow, tkC_scs])⟩, by show 7 - 5 < 7 - 4; decide⟩
      · simp only [bool, hfs 4 (by show _ < 7; decide) ho, Bool.false_and, FinR, evRes, evRVs, evRV, am, simprocAttr, tys]
        exact ⟨_, [], [], rfl, Ent.plain rfl rfl rfl trivial rfl, rfl, rfl⟩
    · simp only [int, encN, Int.cast_ofNat_Int, List.map_cons, List.map_nil, am, simprocAttr, tys]
      refine ACall.of (refFits x.l5) [] [] rfl (by simp) (by simp) (by simp) (by repeat' (first | exact trivial | exact .inl rfl | exact .inr rfl | exact .inr ⟨rfl, rfl, rfl, by simp; done⟩ | exact .inr ⟨rfl, by simp; done⟩ | exact .inr ⟨rfl, rfl, by simp; done⟩ | apply And.intro)) (by repeat' (first | exact trivial | rfl | exact (tkC_ren.1 _ _).symm | (simp; done) | apply And.intro)) (by first | exact .inl rfl | (refine .inr ⟨trivial, ?_⟩; first | (intro row h; rcases List.mem_singleton.1 h with rfl; exact nvB _) | (intro row h; cases h; done) | (simp; done)) | (refine .inr ⟨by simp [nvP, nvP.nvPs, nvD, nilS, errno], ?_⟩; first | (intro row h; rcases List.mem_singleton.1 h with rfl; exact nvB _) | (intro row h; cases h; done) | (simp [nvRow, nvD, nvP]; done))) ?_
      rcases ho : outB 0 x.l5 with _ | _
      · simp only [bool, w5, am, simprocAttr, tys]
        exact ⟨⟨6, by omega, hnx 5 (by show _ < 7; decide) ho hall⟩, [], [0], ⟨rfl, rfl, by simp, (fun i hi => absurd hi (Nat.not_lt_zero _)), ⟨.inr rfl, .inr rfl, trivial⟩, ⟨.inr ⟨by decide, rfl⟩, trivial⟩, rfl, by decide, rfl, (by first | rfl | simp [scRow, tkC_scs])⟩, by show 7 - 6 < 7 - 5; decide⟩
      · simp only [bool, hfs 5 (by show _ < 7; decide) ho, Bool.false_and, FinR, evRes, evRVs, evRV, am, simprocAttr, tys]
        exact ⟨_, [], [], rfl, Ent.plain rfl rfl rfl trivial rfl, rfl, rfl⟩
    · simp only [int, encN, Int.cast_ofNat_Int, List.map_cons, List.map_nil, am, simprocAttr, tys]
      refine ACall.of (refFits x.l6) [] [] rfl (by simp) (by simp) (by simp) (by repeat' (first | exact trivial | exact .inl rfl | exact .inr rfl | exact .inr ⟨rfl, rfl, rfl, by simp; done⟩ | exact .inr ⟨rfl, by simp; done⟩ | exact .inr ⟨rfl, rfl, by simp; done⟩ | apply And.intro)) (by repeat' (first | exact trivial | rfl | exact (tkC_ren.1 _ _).symm | (simp; done) | apply And.intro)) (by first | exact .inl rfl | (refine .inr ⟨trivial, ?_⟩; first | (intro row h; rcases List.mem_singleton.1 h with rfl; exact nvB _) | (intro row h; cases h; done) | (simp; done)) | (refine .inr ⟨by simp [nvP, nvP.nvPs, nvD, nilS, errno], ?_⟩; first | (intro row h; rcases List.mem_singleton.1 h with rfl; exact nvB _) | (intro row h; cases h; done) | (simp [nvRow, nvD, nvP]; done))) ?_
      rcases ho : outB 0 x.l6 with _ | _
      · simp only [bool, w6, am, simprocAttr, tys]
        exact ⟨⟨7, by omega, hnx 6 (by show _ < 7; decide) ho hall⟩, [], [0], ⟨rfl, rfl, by simp, (fun i hi => absurd hi (Nat.not_lt_zero _)), ⟨.inr rfl, .inr rfl, trivial⟩, ⟨.inr ⟨by decide, rfl⟩, trivial⟩, rfl, by decide, rfl, (by first | rfl | simp [scRow, tkC_scs])⟩, by show 7 - 7 < 7 - 6; decide⟩
      · simp only [bool, hfs 6 (by show _ < 7; decide) ho, Bool.false_and, FinR, evRes, evRVs, evRV, am, simprocAttr, tys]
        exact ⟨_, [], [], rfl, Ent.plain rfl rfl rfl trivial rfl, rfl, rfl⟩
  · obtain rfl : i = 7 := by omega
    have hfit : fitsB 0 [x.l0, x.l1, x.l2, x.l3, x.l4, x.l5, x.l6] = true := by
      have h := hall
      have e : (lvI x).take 7 = lvI x := List.take_of_length_le (by simp [lvI])
      rw [e] at h
      show (!((lvI x).any (outB 0))) = true
      rw [List.not_any_eq_all_not]; exact h
    simp only [int, encN, hfit, Bool.true_and, Int.cast_ofNat_Int, List.map_cons, List.map_nil, am, simprocAttr, tys]
    refine ALoopW.intro 118 0 (ι := { i : Nat // i ≤ x.log.length ∧ (x.log.take i).all mayE = true }) (fun i => [(1, .ptr 0 0), (4, int i.1)]) (fun _ => [.box ((encN x).map .d)]) (fun i => x.log.length - i.1) ⟨0, by omega, rfl⟩ [] [0] ?_ (fun ⟨i, hi, hall⟩ => ?_)
    · exact ⟨rfl, rfl, by simp, (fun i hi => absurd hi (Nat.not_lt_zero _)), ⟨.inr rfl, .inr rfl, trivial⟩, ⟨.inr ⟨by decide, rfl⟩, trivial⟩, rfl, by decide, rfl, (by first | rfl | simp [scRow, tkC_scs])⟩
    simp only
    rcases Nat.lt_or_ge i x.log.length with hlt | hge
    · have hb : x.log[i]? = some x.log[i] := List.getElem?_eq_getElem hlt
      have hltI : ((i : Int) < x.log.length) := by omega
      have e1 : IntKind.i64.wrap ((i : Int) + 1) = ((i + 1 : Nat) : Int) := by rw [IntWalk.i64_in _ (by have := h.hl; omega)]; simp
      have fe := h.he x.log[i] (List.getElem_mem hlt)
      have cR := refORight x.log[i].2.2.1 fe.2.2.toFit
      simp only [encO] at cR
      have hne : mayE x.log[i] = false → x.log.all mayE = false := fun hm => by
        rw [List.all_eq_false]
        exact ⟨_, List.getElem_mem hlt, by rw [hm]; simp⟩
      have hnx : mayE x.log[i] = true → (x.log.take (i + 1)).all mayE = true := fun hm => by
        rw [List.take_succ_eq_append_getElem hlt, List.all_append, hall, List.all_cons, hm]; rfl
      rw [mayE_eq] at hne hnx
      have hge0 : ((0 : Int) ≤ i) := by omega
      rcases g1 : decide (x.log[i].1 < 0) with _ | _
      case' true =>
        simp only [int, encN, encE, hb, hltI, g1, hne (by rw [g1]; rfl), bool, Int.natCast_nonneg, Int.toNat_natCast, List.map_cons, List.map_nil, FinR, evRes, evRVs, evRV, am, simprocAttr, tys]
        exact ⟨_, [], [], rfl, Ent.plain rfl rfl rfl trivial rfl, rfl, rfl⟩
      rcases g2 : decide (8 ≤ x.log[i].1) with _ | _
      case' true =>
        simp only [int, encN, encE, hb, hltI, g1, g2, hne (by rw [g1, g2]; rfl), bool, Int.natCast_nonneg, Int.toNat_natCast, List.map_cons, List.map_nil, FinR, evRes, evRVs, evRV, am, simprocAttr, tys]
        exact ⟨_, [], [], rfl, Ent.plain rfl rfl rfl trivial rfl, rfl, rfl⟩
      rcases g3 : decide (x.log[i].2.1 < 1) with _ | _
      case' true =>
        simp only [int, encN, encE, hb, hltI, g1, g2, g3, hne (by rw [g1, g2, g3]; rfl), bool, Int.natCast_nonneg, Int.toNat_natCast, List.map_cons, List.map_nil, FinR, evRes, evRVs, evRV, am, simprocAttr, tys]
        exact ⟨_, [], [], rfl, Ent.plain rfl rfl rfl trivial rfl, rfl, rfl⟩
      simp only [int, encN, encE, hb, hltI, g1, g2, g3, Int.natCast_nonneg, Int.toNat_natCast, List.map_cons, List.map_nil, am, simprocAttr, tys]
      refine ACall.of (refFits x.log[i].2.1) [] [] rfl (by simp) (by simp) (by simp) (by repeat' (first | exact trivial | exact .inl rfl | exact .inr rfl | exact .inr ⟨rfl, rfl, rfl, by simp; done⟩ | exact .inr ⟨rfl, by simp; done⟩ | exact .inr ⟨rfl, rfl, by simp; done⟩ | apply And.intro)) (by repeat' (first | exact trivial | rfl | exact (tkC_ren.1 _ _).symm | (simp; done) | apply And.intro)) (by first | exact .inl rfl | (refine .inr ⟨trivial, ?_⟩; first | (intro row h; rcases List.mem_singleton.1 h with rfl; exact nvB _) | (intro row h; cases h; done) | (simp; done)) | (refine .inr ⟨by simp [nvP, nvP.nvPs, nvD, nilS, errno], ?_⟩; first | (intro row h; rcases List.mem_singleton.1 h with rfl; exact nvB _) | (intro row h; cases h; done) | (simp [nvRow, nvD, nvP]; done))) ?_
      rcases g4 : outB 0 x.log[i].2.1 with _ | _
      case' true =>
        simp only [bool, hne (by rw [g1, g2, g3, g4]; rfl), FinR, evRes, evRVs, evRV, am, simprocAttr, tys]
        exact ⟨_, [], [], rfl, Ent.plain rfl rfl rfl trivial rfl, rfl, rfl⟩
      simp only [bool, am, simprocAttr, tys]
      refine ACall.of (cR) [] [] rfl (by simp) (by simp) (by simp) (by repeat' (first | exact trivial | exact .inl rfl | exact .inr rfl | exact .inr ⟨rfl, rfl, rfl, by simp; done⟩ | exact .inr ⟨rfl, by simp; done⟩ | exact .inr ⟨rfl, rfl, by simp; done⟩ | apply And.intro)) (by repeat' (first | exact trivial | rfl | exact (tkC_ren.1 _ _).symm | (simp; done) | apply And.intro)) (by first | exact .inl rfl | (refine .inr ⟨trivial, ?_⟩; first | (intro row h; rcases List.mem_singleton.1 h with rfl; exact nvB _) | (intro row h; cases h; done) | (simp; done)) | (refine .inr ⟨by simp [nvP, nvP.nvPs, nvD, nilS, errno], ?_⟩; first | (intro row h; rcases List.mem_singleton.1 h with rfl; exact nvB _) | (intro row h; cases h; done) | (simp [nvRow, nvD, nvP]; done))) ?_
      rcases g5 : rightO x.log[i].2.2.1 with _ | _
      · simp only [bool, hne (by rw [g1, g2, g3, g4, g5]; rfl), FinR, evRes, evRVs, evRV, am, simprocAttr, tys]
        exact ⟨_, [], [], rfl, Ent.plain rfl rfl rfl trivial rfl, rfl, rfl⟩
      · simp only [bool, e1, am, simprocAttr, tys]
        exact ⟨⟨i + 1, by omega, hnx (by rw [g1, g2, g3, g4, g5]; rfl)⟩, [], [0], ⟨rfl, rfl, by simp, (fun i hi => absurd hi (Nat.not_lt_zero _)), ⟨.inr rfl, .inr rfl, trivial⟩, ⟨.inr ⟨by decide, rfl⟩, trivial⟩, rfl, by decide, rfl, (by first | rfl | simp [scRow, tkC_scs])⟩, by show x.log.length - (i + 1) < x.log.length - i; omega⟩
    · have hltI : ¬ ((i : Int) < x.log.length) := by omega
      rw [List.take_of_length_le hge] at hall
      simp only [int, encN, hltI, hall, bool, List.map_cons, List.map_nil, FinR, evRes, evRVs, evRV, am, simprocAttr, tys]
      exact ⟨_, [], [], rfl, Ent.plain rfl rfl rfl trivial rfl, rfl, rfl⟩
end Go.Proofs.Ytflpphgccjlkjaa

set_option linter.unusedSimpArgs false
set_option linter.unusedVariables false
namespace Go.Proofs.Ytflpphgccjlkjaa
open Go Go.AM

/-! ## whether two are the same -/
def sameE (e g : EntT) : Bool := e.1 == g.1 && (e.2.1 == g.2.1 && sameO e.2.2.1 g.2.2.1)
theorem sameE_iff (e g : EntT) : sameE e g = true ↔ e = g := by
  obtain ⟨a, b, o, ⟨⟩⟩ := e
  obtain ⟨a', b', o', ⟨⟩⟩ := g
  simp [sameE, sameO_iff]
instance : DecidableEq EntT := fun e g => decidable_of_iff _ (sameE_iff e g)
theorem sameE_eq (e g : EntT) : sameE e g = decide (e = g) := by
  rw [Bool.eq_iff_iff, sameE_iff, decide_eq_true_eq]

theorem noteOne (e g : EntT) (he : FitE e) (hg : FitE g) : AFun Try.prog 22 [.d (.agg (encE e)), .d (.agg (encE g))] [] (bool (sameE e g)) [] := by
  refine AFun.of_walk hP Try.func22 rfl rfl rfl (by simp) rfl ?_
  have c := opSame e.2.2.1 g.2.2.1 he.2.2.l hg.2.2.l he.2.2.a hg.2.2.a
  simp only [encO] at c
  unfold sameE
  rcases h0 : e.1 == g.1 with _ | _
  · simp only [Try.f22, encE, bool, h0, Bool.false_and, FinR, evRes, evRVs, evRV, am, simprocAttr, tys]
    exact ⟨_, [], [], rfl, Ent.plain rfl rfl rfl trivial rfl, rfl, rfl⟩
  rcases h1 : e.2.1 == g.2.1 with _ | _
  · simp only [Try.f22, encE, bool, h0, h1, Bool.true_and, Bool.false_and, FinR, evRes, evRVs, evRV, am, simprocAttr, tys]
    exact ⟨_, [], [], rfl, Ent.plain rfl rfl rfl trivial rfl, rfl, rfl⟩
  simp only [Try.f22, encE, h0, h1, Bool.true_and, am, simprocAttr, tys]
  refine ACall.of (c) [] [] rfl (by simp) (by simp) (by simp) (by repeat' (first | exact trivial | exact .inl rfl | exact .inr rfl | exact .inr ⟨rfl, rfl, rfl, by simp; done⟩ | exact .inr ⟨rfl, by simp; done⟩ | exact .inr ⟨rfl, rfl, by simp; done⟩ | apply And.intro)) (by repeat' (first | exact trivial | rfl | exact (tkC_ren.1 _ _).symm | (simp; done) | apply And.intro)) (by first | exact .inl rfl | (refine .inr ⟨trivial, ?_⟩; first | (intro row h; rcases List.mem_singleton.1 h with rfl; exact nvB _) | (intro row h; cases h; done) | (simp; done)) | (refine .inr ⟨by simp [nvP, nvP.nvPs, nvD, nilS, errno], ?_⟩; first | (intro row h; rcases List.mem_singleton.1 h with rfl; exact nvB _) | (intro row h; cases h; done) | (simp [nvRow, nvD, nvP]; done))) ?_
  simp only [bool, FinR, evRes, evRVs, evRV, am, simprocAttr, tys]
  exact ⟨_, [], [], rfl, Ent.plain rfl rfl rfl trivial rfl, rfl, rfl⟩

theorem refOne (e g : EntT) (he : FitE e) (hg : FitE g) : AFun Try.prog 37 [.d (.agg (encE e)), .d (.agg (encE g))] [] (bool (sameE e g)) [] := by
  refine AFun.of_walk hP Try.func37 rfl rfl rfl (by simp) rfl ?_
  have c := refOSame e.2.2.1 g.2.2.1 he.2.2.l hg.2.2.l he.2.2.a hg.2.2.a
  simp only [encO] at c
  unfold sameE
  rcases h0 : e.1 == g.1 with _ | _
  · simp only [Try.f37, encE, bool, h0, Bool.false_and, FinR, evRes, evRVs, evRV, am, simprocAttr, tys]
    exact ⟨_, [], [], rfl, Ent.plain rfl rfl rfl trivial rfl, rfl, rfl⟩
  rcases h1 : e.2.1 == g.2.1 with _ | _
  · simp only [Try.f37, encE, bool, h0, h1, Bool.true_and, Bool.false_and, FinR, evRes, evRVs, evRV, am, simprocAttr, tys]
    exact ⟨_, [], [], rfl, Ent.plain rfl rfl rfl trivial rfl, rfl, rfl⟩
  simp only [Try.f37, encE, h0, h1, Bool.true_and, am, simprocAttr, tys]
  refine ACall.of (c) [] [] rfl (by simp) (by simp) (by simp) (by repeat' (first | exact trivial | exact .inl rfl | exact .inr rfl | exact .inr ⟨rfl, rfl, rfl, by simp; done⟩ | exact .inr ⟨rfl, by simp; done⟩ | exact .inr ⟨rfl, rfl, by simp; done⟩ | apply And.intro)) (by repeat' (first | exact trivial | rfl | exact (tkC_ren.1 _ _).symm | (simp; done) | apply And.intro)) (by first | exact .inl rfl | (refine .inr ⟨trivial, ?_⟩; first | (intro row h; rcases List.mem_singleton.1 h with rfl; exact nvB _) | (intro row h; cases h; done) | (simp; done)) | (refine .inr ⟨by simp [nvP, nvP.nvPs, nvD, nilS, errno], ?_⟩; first | (intro row h; rcases List.mem_singleton.1 h with rfl; exact nvB _) | (intro row h; cases h; done) | (simp [nvRow, nvD, nvP]; done))) ?_
  simp only [bool, FinR, evRes, evRVs, evRV, am, simprocAttr, tys]
  exact ⟨_, [], [], rfl, Ent.plain rfl rfl rfl trivial rfl, rfl, rfl⟩

theorem take_ne {α : Type} {a b : List α} {i : Nat} {x y : α} (ha : a[i]? = some x) (hb : b[i]? = some y) (h : x ≠ y) : a ≠ b := fun e => by
  rw [e, hb] at ha; exact h (Option.some.inj ha).symm
theorem take_step {α : Type} {a b : List α} {i : Nat} {x : α} (ha : a[i]? = some x) (hb : b[i]? = some x) (h : a.take i = b.take i) : a.take (i + 1) = b.take (i + 1) := by
  rw [List.take_add_one, List.take_add_one, h, ha, hb]

set_option maxRecDepth 8000 in
theorem equalE (a b : List EntT) (ha : a.length ≤ 9223372036854775807) (hb : b.length ≤ 9223372036854775807) (fa : ∀ e ∈ a, FitE e) (fb : ∀ e ∈ b, FitE e) :
    AFun Try.prog 21 [.d (.sl 7 (a.map encE)), .d (.sl 7 (b.map encE)), .clo (.func 22) [] []] [] (bool (decide (a = b))) [] := by
  refine AFun.of_walk hP Try.func21 rfl rfl rfl (by simp) rfl ?_
  rcases hl : ((a.length : Int) == (b.length : Int)) with _ | _
  · have hne : decide (a = b) = false := decide_eq_false fun e => by rw [e] at hl; simp at hl
    have hl2 : ((a.length : Int) != (b.length : Int)) = true := by simp [bne, hl]
    simp only [Try.f21, List.length_map, hl, hl2, hne, bool, FinR, evRes, evRVs, evRV, am, simprocAttr, tys]
    exact ⟨_, [], [], rfl, Ent.plain rfl rfl rfl trivial rfl, rfl, rfl⟩
  have hl2 : ((a.length : Int) != (b.length : Int)) = false := by simp [bne, hl]
  have hll : a.length = b.length := by have := eq_of_beq hl; omega
  simp only [Try.f21, List.length_map, hl, hl2, am, simprocAttr, tys]
  refine ALoopW.intro 32 0 (ι := { i : Nat // i ≤ a.length ∧ a.take i = b.take i }) (fun i => [(1, .d (.sl 7 (b.map encE))), (2, .clo (.func 22) [] []), (15, .d (.sl 7 (a.map encE))), (16, int a.length), (17, int i.1)]) (fun _ => []) (fun i => a.length - i.1) ⟨0, by omega, rfl⟩ [] [] ?_ (fun ⟨i, hi, hab⟩ => ?_)
  · exact Ent.plain rfl rfl rfl (⟨.inr rfl, .inr rfl, .inr rfl, .inr rfl, .inr rfl, trivial⟩) rfl
  simp only
  rcases Nat.lt_or_ge i a.length with hlt | hge
  · have h1 : a[i]? = some a[i] := List.getElem?_eq_getElem hlt
    have hltb : i < b.length := by omega
    have h2 : b[i]? = some b[i] := List.getElem?_eq_getElem hltb
    have hltI : ((i : Int) < a.length) := by omega
    have hltI2 : ((i : Int) < b.length) := by omega
    have e1 : IntKind.i64.wrap ((i : Int) + 1) = ((i + 1 : Nat) : Int) := by rw [IntWalk.i64_in _ (by omega)]; simp
    have c := noteOne a[i] b[i] (fa _ (List.getElem_mem hlt)) (fb _ (List.getElem_mem hltb))
    simp only [encE] at c
    simp only [int, h1, h2, hltI, hltI2, encE, Int.natCast_nonneg, Int.toNat_natCast, am, simprocAttr, tys]
    refine ACall.of (c) [] [] rfl (by simp) (by simp) (by simp) (by repeat' (first | exact trivial | exact .inl rfl | exact .inr rfl | exact .inr ⟨rfl, rfl, rfl, by simp; done⟩ | exact .inr ⟨rfl, by simp; done⟩ | exact .inr ⟨rfl, rfl, by simp; done⟩ | apply And.intro)) (by repeat' (first | exact trivial | rfl | exact (tkC_ren.1 _ _).symm | (simp; done) | apply And.intro)) (by first | exact .inl rfl | (refine .inr ⟨trivial, ?_⟩; first | (intro row h; rcases List.mem_singleton.1 h with rfl; exact nvB _) | (intro row h; cases h; done) | (simp; done)) | (refine .inr ⟨by simp [nvP, nvP.nvPs, nvD, nilS, errno], ?_⟩; first | (intro row h; rcases List.mem_singleton.1 h with rfl; exact nvB _) | (intro row h; cases h; done) | (simp [nvRow, nvD, nvP]; done))) ?_
    rcases hs : sameE a[i] b[i] with _ | _
    · have hne : decide (a = b) = false := decide_eq_false (take_ne h1 h2 fun e => by
        have := (sameE_iff a[i] b[i]).2 e
        rw [hs] at this; cases this)
      simp only [bool, hne, FinR, evRes, evRVs, evRV, am, simprocAttr, tys]
      exact ⟨_, [], [], rfl, Ent.plain rfl rfl rfl trivial rfl, rfl, rfl⟩
    · have hee := (sameE_iff _ _).1 hs
      simp only [bool, e1, am, simprocAttr, tys]
      exact ⟨⟨i + 1, by omega, take_step h1 (by rw [h2, hee]) hab⟩, [], [], Ent.plain rfl rfl rfl (⟨.inr rfl, .inr rfl, .inr rfl, .inr rfl, .inr rfl, trivial⟩) rfl, by show a.length - (i + 1) < a.length - i; omega⟩
  · have hltI : ¬ ((i : Int) < a.length) := by omega
    rw [List.take_of_length_le hge, List.take_of_length_le (by omega)] at hab
    have he : decide (a = b) = true := decide_eq_true hab
    simp only [int, hltI, he, bool, FinR, evRes, evRVs, evRV, am, simprocAttr, tys]
    exact ⟨_, [], [], rfl, Ent.plain rfl rfl rfl trivial rfl, rfl, rfl⟩

def prefB (a b : List EntT) : Bool := decide (a = b.take a.length)
theorem prefB_len {a b : List EntT} (h : b.length < a.length) : prefB a b = false := decide_eq_false fun e => by
  have := congrArg List.length e
  simp at this; omega

theorem notePrefix (a b : List EntT) (ha : a.length ≤ 9223372036854775807) (hb : b.length ≤ 9223372036854775807) (fa : ∀ e ∈ a, FitE e) (fb : ∀ e ∈ b, FitE e) :
    AFun Try.prog 11 [.d (.sl 7 (a.map encE)), .d (.sl 7 (b.map encE))] [] (bool (prefB a b)) [] := by
  refine AFun.of_walk hP Try.func11 rfl rfl rfl (by simp) rfl ?_
  rcases Nat.lt_or_ge b.length a.length with hlt | hge
  · have hI : ¬ ((a.length : Int) ≤ b.length) := by omega
    have hI2 : decide ((a.length : Int) ≤ b.length) = false := decide_eq_false hI
    simp only [Try.f11, List.length_map, hI, hI2, prefB_len hlt, bool, FinR, evRes, evRVs, evRV, am, simprocAttr, tys]
    exact ⟨_, [], [], rfl, Ent.plain rfl rfl rfl trivial rfl, rfl, rfl⟩
  · have hI : ((a.length : Int) ≤ b.length) := by omega
    have hI2 : decide ((a.length : Int) ≤ b.length) = true := decide_eq_true hI
    have c := equalE a (b.take a.length) ha (by simp; omega) fa (fun e he => fb e (List.mem_of_mem_take he))
    simp only [Try.f11, List.length_map, hI, hI2, Int.natCast_nonneg, Int.toNat_natCast, List.drop_zero, ← List.map_take, am, simprocAttr, tys]
    refine ACall.of (c) [] [] rfl (by simp) (by simp) (by simp) (by repeat' (first | exact trivial | exact .inl rfl | exact .inr rfl | exact .inr ⟨rfl, rfl, rfl, by simp; done⟩ | exact .inr ⟨rfl, by simp; done⟩ | exact .inr ⟨rfl, rfl, by simp; done⟩ | apply And.intro)) (by repeat' (first | exact trivial | rfl | exact (tkC_ren.1 _ _).symm | (simp; done) | apply And.intro)) (by first | exact .inl rfl | (refine .inr ⟨trivial, ?_⟩; first | (intro row h; rcases List.mem_singleton.1 h with rfl; exact nvB _) | (intro row h; cases h; done) | (simp; done)) | (refine .inr ⟨by simp [nvP, nvP.nvPs, nvD, nilS, errno], ?_⟩; first | (intro row h; rcases List.mem_singleton.1 h with rfl; exact nvB _) | (intro row h; cases h; done) | (simp [nvRow, nvD, nvP]; done))) ?_
    simp only [prefB, bool, FinR, evRes, evRVs, evRV, am, simprocAttr, tys]
    exact ⟨_, [], [], rfl, Ent.plain rfl rfl rfl trivial rfl, rfl, rfl⟩

set_option maxRecDepth 8000 in
theorem refPrefix (a b : List EntT) (ha : a.length ≤ 9223372036854775807) (hb : b.length ≤ 9223372036854775807) (fa : ∀ e ∈ a, FitE e) (fb : ∀ e ∈ b, FitE e) :
    AFun Try.prog 18 [.d (.sl 7 (a.map encE)), .d (.sl 7 (b.map encE))] [] (bool (prefB a b)) [] := by
  refine AFun.of_walk hP Try.func18 rfl rfl rfl (by simp) rfl ?_
  rcases Nat.lt_or_ge b.length a.length with hlt | hge
  · have hI : ((b.length : Int) < a.length) := by omega
    simp only [Try.f18, List.length_map, hI, prefB_len hlt, bool, FinR, evRes, evRVs, evRV, am, simprocAttr, tys]
    exact ⟨_, [], [], rfl, Ent.plain rfl rfl rfl trivial rfl, rfl, rfl⟩
  have hI : ¬ ((b.length : Int) < a.length) := by omega
  simp only [Try.f18, List.length_map, hI, am, simprocAttr, tys]
  refine ALoopW.intro 27 0 (ι := { i : Nat // i ≤ a.length ∧ a.take i = (b.take a.length).take i }) (fun i => [(0, .d (.sl 7 (a.map encE))), (1, .d (.sl 7 (b.map encE))), (5, int i.1)]) (fun _ => []) (fun i => a.length - i.1) ⟨0, by omega, rfl⟩ [] [] ?_ (fun ⟨i, hi, hab⟩ => ?_)
  · exact Ent.plain rfl rfl rfl (⟨.inr rfl, .inr rfl, .inr rfl, trivial⟩) rfl
  simp only
  rcases Nat.lt_or_ge i a.length with hlt | hge'
  · have h1 : a[i]? = some a[i] := List.getElem?_eq_getElem hlt
    have hltb : i < b.length := by omega
    have h2 : b[i]? = some b[i] := List.getElem?_eq_getElem hltb
    have h2' : (b.take a.length)[i]? = some b[i] := by rw [List.getElem?_take, if_pos hlt]; exact h2
    have hltI : ((i : Int) < a.length) := by omega
    have e1 : IntKind.i64.wrap ((i : Int) + 1) = ((i + 1 : Nat) : Int) := by rw [IntWalk.i64_in _ (by omega)]; simp
    have c := refOne a[i] b[i] (fa _ (List.getElem_mem hlt)) (fb _ (List.getElem_mem hltb))
    simp only [encE] at c
    simp only [int, h1, h2, hltI, encE, List.length_map, Int.natCast_nonneg, Int.toNat_natCast, am, simprocAttr, tys]
    refine ACallD.of (c) (by kernel_rfl) [] [] rfl (by simp) (by simp) (by simp) (by simp) (by repeat' (first | exact trivial | exact .inl rfl | exact .inr rfl | exact .inr ⟨rfl, rfl, rfl, by simp; done⟩ | exact .inr ⟨rfl, by simp; done⟩ | exact .inr ⟨rfl, rfl, by simp; done⟩ | apply And.intro)) (by repeat' (first | exact trivial | rfl | exact (tkC_ren.1 _ _).symm | (simp; done) | apply And.intro)) (by first | exact .inl rfl | (refine .inr ⟨trivial, ?_⟩; first | (intro row h; rcases List.mem_singleton.1 h with rfl; exact nvB _) | (intro row h; cases h; done) | (simp; done)) | (refine .inr ⟨by simp [nvP, nvP.nvPs, nvD, nilS, errno], ?_⟩; first | (intro row h; rcases List.mem_singleton.1 h with rfl; exact nvB _) | (intro row h; cases h; done) | (simp [nvRow, nvD, nvP]; done))) rfl rfl rfl rfl ?_
    rcases hs : sameE a[i] b[i] with _ | _
    · have hne : prefB a b = false := decide_eq_false (take_ne h1 h2' fun e => by
        have := (sameE_iff a[i] b[i]).2 e
        rw [hs] at this; cases this)
      simp only [bool, hne, FinR, evRes, evRVs, evRV, am, simprocAttr, tys]
      exact ⟨by kernel_rfl, ⟨_, [], [], rfl, Ent.plain rfl rfl rfl trivial rfl, rfl, rfl⟩⟩
    · have hee := (sameE_iff _ _).1 hs
      simp only [bool, e1, am, simprocAttr, tys]
      exact ⟨by kernel_rfl, ⟨i + 1, by omega, take_step h1 (by rw [h2', hee]) hab⟩, [], [], Ent.plain rfl rfl rfl (⟨.inr rfl, .inr rfl, .inr rfl, trivial⟩) rfl, by show a.length - (i + 1) < a.length - i; omega⟩
  · have hltI : ¬ ((i : Int) < a.length) := by omega
    rw [List.take_of_length_le hge', List.take_of_length_le (by simp; omega)] at hab
    have he : prefB a b = true := decide_eq_true hab
    simp only [int, hltI, List.length_map, he, bool, FinR, evRes, evRVs, evRV, am, simprocAttr, tys]
    exact ⟨_, [], [], rfl, Ent.plain rfl rfl rfl trivial rfl, rfl, rfl⟩
end Go.Proofs.Ytflpphgccjlkjaa

set_option linter.unusedSimpArgs false
set_option linter.unusedVariables false
namespace Go.Proofs.Ytflpphgccjlkjaa
open Go Go.AM

def lvB (x y : NT) : Bool := x.l0 == y.l0 && (x.l1 == y.l1 && (x.l2 == y.l2 && (x.l3 == y.l3 && (x.l4 == y.l4 && (x.l5 == y.l5 && x.l6 == y.l6)))))
def sameN (x y : NT) : Bool := ((x.k.toNat : Int) == (y.k.toNat : Int)) && ((x.f == y.f) && ((x.t == y.t) && ((x.v == y.v) && ((x.n == y.n) && ((x.i == y.i) && ((x.s == y.s) && ((x.ld == y.ld) && (lvB x y && decide (x.log = y.log)))))))))
theorem sameN_iff (x y : NT) : sameN x y = true ↔ x = y := by
  obtain ⟨a0, a1, a2, a3, a4, a5, a6, a7, b0, b1, b2, b3, b4, b5, b6, l⟩ := x
  obtain ⟨a0', a1', a2', a3', a4', a5', a6', a7', b0', b1', b2', b3', b4', b5', b6', l'⟩ := y
  have hk : (a0.toNat : Int) = (a0'.toNat : Int) ↔ a0 = a0' := ⟨fun h => UInt8.toNat_inj.1 (by omega), fun h => by rw [h]⟩
  simp only [sameN, lvB, Bool.and_eq_true, beq_iff_eq, decide_eq_true_eq, NT.mk.injEq, hk, and_assoc]
theorem lv_cells (x y : NT) : eqLits [.int .i64, .int .i64, .int .i64, .int .i64, .int .i64, .int .i64, .int .i64] [.lit (.int .i64 x.l0), .lit (.int .i64 x.l1), .lit (.int .i64 x.l2), .lit (.int .i64 x.l3), .lit (.int .i64 x.l4), .lit (.int .i64 x.l5), .lit (.int .i64 x.l6)]
    [.lit (.int .i64 y.l0), .lit (.int .i64 y.l1), .lit (.int .i64 y.l2), .lit (.int .i64 y.l3), .lit (.int .i64 y.l4), .lit (.int .i64 y.l5), .lit (.int .i64 y.l6)] = some (lvB x y) := by
  simp only [eqLits, eqK, if_true, Bool.and_true, lvB]

set_option maxRecDepth 8000 in
set_option maxHeartbeats 2000000 in
theorem noteSame (x y : NT) (hx : FitN x) (hy : FitN y) : AFun Try.prog 13 [.d (.agg (encN x)), .d (.agg (encN y))] [] (bool (sameN x y)) [] := by
  refine AFun.of_walk hP Try.func13 rfl rfl rfl (by simp) rfl ?_
  have hc := lv_cells x y
  unfold sameN
  rcases h0 : ((x.k.toNat : Int) == (y.k.toNat : Int)) with _ | _
  case' false =>
    simp only [Try.f13, encN, bool, h0, Bool.true_and, Bool.false_and, FinR, evRes, evRVs, evRV, am, simprocAttr, tys]
    exact ⟨_, [], [], rfl, Ent.plain rfl rfl rfl trivial rfl, rfl, rfl⟩
  rcases h1 : (x.f == y.f) with _ | _
  case' false =>
    simp only [Try.f13, encN, bool, h0, h1, Bool.true_and, Bool.false_and, FinR, evRes, evRVs, evRV, am, simprocAttr, tys]
    exact ⟨_, [], [], rfl, Ent.plain rfl rfl rfl trivial rfl, rfl, rfl⟩
  rcases h2 : (x.t == y.t) with _ | _
  case' false =>
    simp only [Try.f13, encN, bool, h0, h1, h2, Bool.true_and, Bool.false_and, FinR, evRes, evRVs, evRV, am, simprocAttr, tys]
    exact ⟨_, [], [], rfl, Ent.plain rfl rfl rfl trivial rfl, rfl, rfl⟩
  rcases h3 : (x.v == y.v) with _ | _
  case' false =>
    simp only [Try.f13, encN, bool, h0, h1, h2, h3, Bool.true_and, Bool.false_and, FinR, evRes, evRVs, evRV, am, simprocAttr, tys]
    exact ⟨_, [], [], rfl, Ent.plain rfl rfl rfl trivial rfl, rfl, rfl⟩
  rcases h4 : (x.n == y.n) with _ | _
  case' false =>
    simp only [Try.f13, encN, bool, h0, h1, h2, h3, h4, Bool.true_and, Bool.false_and, FinR, evRes, evRVs, evRV, am, simprocAttr, tys]
    exact ⟨_, [], [], rfl, Ent.plain rfl rfl rfl trivial rfl, rfl, rfl⟩
  rcases h5 : (x.i == y.i) with _ | _
  case' false =>
    simp only [Try.f13, encN, bool, h0, h1, h2, h3, h4, h5, Bool.true_and, Bool.false_and, FinR, evRes, evRVs, evRV, am, simprocAttr, tys]
    exact ⟨_, [], [], rfl, Ent.plain rfl rfl rfl trivial rfl, rfl, rfl⟩
  rcases h6 : (x.s == y.s) with _ | _
  case' false =>
    simp only [Try.f13, encN, bool, h0, h1, h2, h3, h4, h5, h6, Bool.true_and, Bool.false_and, FinR, evRes, evRVs, evRV, am, simprocAttr, tys]
    exact ⟨_, [], [], rfl, Ent.plain rfl rfl rfl trivial rfl, rfl, rfl⟩
  rcases h7 : (x.ld == y.ld) with _ | _
  case' false =>
    simp only [Try.f13, encN, bool, h0, h1, h2, h3, h4, h5, h6, h7, Bool.true_and, Bool.false_and, FinR, evRes, evRVs, evRV, am, simprocAttr, tys]
    exact ⟨_, [], [], rfl, Ent.plain rfl rfl rfl trivial rfl, rfl, rfl⟩
  rcases h8 : lvB x y with _ | _
  all_goals rw [h8] at hc
  case' false =>
    simp only [Try.f13, encN, bool, h0, h1, h2, h3, h4, h5, h6, h7, hc, Bool.true_and, Bool.false_and, FinR, evRes, evRVs, evRV, am, simprocAttr, tys]
    exact ⟨_, [], [], rfl, Ent.plain rfl rfl rfl trivial rfl, rfl, rfl⟩
  simp only [Try.f13, encN, h0, h1, h2, h3, h4, h5, h6, h7, hc, Bool.true_and, am, simprocAttr, tys]
  refine ACall.of (equalE x.log y.log hx.hl hy.hl hx.he hy.he) [] [] rfl (by simp) (by simp) (by simp) (by repeat' (first | exact trivial | exact .inl rfl | exact .inr rfl | exact .inr ⟨rfl, rfl, rfl, by simp; done⟩ | exact .inr ⟨rfl, by simp; done⟩ | exact .inr ⟨rfl, rfl, by simp; done⟩ | apply And.intro)) (by repeat' (first | exact trivial | rfl | exact (tkC_ren.1 _ _).symm | (simp; done) | apply And.intro)) (by first | exact .inl rfl | (refine .inr ⟨trivial, ?_⟩; first | (intro row h; rcases List.mem_singleton.1 h with rfl; exact nvB _) | (intro row h; cases h; done) | (simp; done)) | (refine .inr ⟨by simp [nvP, nvP.nvPs, nvD, nilS, errno], ?_⟩; first | (intro row h; rcases List.mem_singleton.1 h with rfl; exact nvB _) | (intro row h; cases h; done) | (simp [nvRow, nvD, nvP]; done))) ?_
  simp only [bool, FinR, evRes, evRVs, evRV, am, simprocAttr, tys]
  exact ⟨_, [], [], rfl, Ent.plain rfl rfl rfl trivial rfl, rfl, rfl⟩

set_option maxRecDepth 8000 in
set_option maxHeartbeats 2000000 in
theorem refNSame (x y : NT) (hx : FitN x) (hy : FitN y) : AFun Try.prog 17 [.d (.agg (encN x)), .d (.agg (encN y))] [] (bool (sameN x y)) [] := by
  refine AFun.of_walk hP Try.func17 rfl rfl rfl (by simp) rfl ?_
  have hc := lv_cells x y
  unfold sameN
  rcases h0 : ((x.k.toNat : Int) == (y.k.toNat : Int)) with _ | _
  case' false =>
    simp only [Try.f17, encN, bool, h0, Bool.true_and, Bool.false_and, FinR, evRes, evRVs, evRV, am, simprocAttr, tys]
    exact ⟨_, [], [], rfl, Ent.plain rfl rfl rfl trivial rfl, rfl, rfl⟩
  rcases h1 : (x.f == y.f) with _ | _
  case' false =>
    simp only [Try.f17, encN, bool, h0, h1, Bool.true_and, Bool.false_and, FinR, evRes, evRVs, evRV, am, simprocAttr, tys]
    exact ⟨_, [], [], rfl, Ent.plain rfl rfl rfl trivial rfl, rfl, rfl⟩
  rcases h2 : (x.t == y.t) with _ | _
  case' false =>
    simp only [Try.f17, encN, bool, h0, h1, h2, Bool.true_and, Bool.false_and, FinR, evRes, evRVs, evRV, am, simprocAttr, tys]
    exact ⟨_, [], [], rfl, Ent.plain rfl rfl rfl trivial rfl, rfl, rfl⟩
  rcases h3 : (x.v == y.v) with _ | _
  case' false =>
    simp only [Try.f17, encN, bool, h0, h1, h2, h3, Bool.true_and, Bool.false_and, FinR, evRes, evRVs, evRV, am, simprocAttr, tys]
    exact ⟨_, [], [], rfl, Ent.plain rfl rfl rfl trivial rfl, rfl, rfl⟩
  rcases h4 : (x.n == y.n) with _ | _
  case' false =>
    simp only [Try.f17, encN, bool, h0, h1, h2, h3, h4, Bool.true_and, Bool.false_and, FinR, evRes, evRVs, evRV, am, simprocAttr, tys]
    exact ⟨_, [], [], rfl, Ent.plain rfl rfl rfl trivial rfl, rfl, rfl⟩
  rcases h5 : (x.i == y.i) with _ | _
  case' false =>
    simp only [Try.f17, encN, bool, h0, h1, h2, h3, h4, h5, Bool.true_and, Bool.false_and, FinR, evRes, evRVs, evRV, am, simprocAttr, tys]
    exact ⟨_, [], [], rfl, Ent.plain rfl rfl rfl trivial rfl, rfl, rfl⟩
  rcases h6 : (x.s == y.s) with _ | _
  case' false =>
    simp only [Try.f17, encN, bool, h0, h1, h2, h3, h4, h5, h6, Bool.true_and, Bool.false_and, FinR, evRes, evRVs, evRV, am, simprocAttr, tys]
    exact ⟨_, [], [], rfl, Ent.plain rfl rfl rfl trivial rfl, rfl, rfl⟩
  rcases h7 : (x.ld == y.ld) with _ | _
  case' false =>
    simp only [Try.f17, encN, bool, h0, h1, h2, h3, h4, h5, h6, h7, Bool.true_and, Bool.false_and, FinR, evRes, evRVs, evRV, am, simprocAttr, tys]
    exact ⟨_, [], [], rfl, Ent.plain rfl rfl rfl trivial rfl, rfl, rfl⟩
  rcases h8 : lvB x y with _ | _
  all_goals rw [h8] at hc
  case' false =>
    simp only [Try.f17, encN, bool, h0, h1, h2, h3, h4, h5, h6, h7, hc, Bool.true_and, Bool.false_and, FinR, evRes, evRVs, evRV, am, simprocAttr, tys]
    exact ⟨_, [], [], rfl, Ent.plain rfl rfl rfl trivial rfl, rfl, rfl⟩
  rcases hl : ((x.log.length : Int) == (y.log.length : Int)) with _ | _
  · have hne : decide (x.log = y.log) = false := decide_eq_false fun e => by rw [e] at hl; simp at hl
    simp only [Try.f17, encN, h0, h1, h2, h3, h4, h5, h6, h7, hc, hl, hne, bool, List.length_map, Bool.true_and, FinR, evRes, evRVs, evRV, am, simprocAttr, tys]
    exact ⟨_, [], [], rfl, Ent.plain rfl rfl rfl trivial rfl, rfl, rfl⟩
  have hll : x.log.length = y.log.length := by have := eq_of_beq hl; omega
  have hpe : prefB x.log y.log = decide (x.log = y.log) := by unfold prefB; rw [List.take_of_length_le (by omega)]
  simp only [Try.f17, encN, h0, h1, h2, h3, h4, h5, h6, h7, hc, hl, List.length_map, Bool.true_and, am, simprocAttr, tys]
  refine ACall.of (refPrefix x.log y.log hx.hl hy.hl hx.he hy.he) [] [] rfl (by simp) (by simp) (by simp) (by repeat' (first | exact trivial | exact .inl rfl | exact .inr rfl | exact .inr ⟨rfl, rfl, rfl, by simp; done⟩ | exact .inr ⟨rfl, by simp; done⟩ | exact .inr ⟨rfl, rfl, by simp; done⟩ | apply And.intro)) (by repeat' (first | exact trivial | rfl | exact (tkC_ren.1 _ _).symm | (simp; done) | apply And.intro)) (by first | exact .inl rfl | (refine .inr ⟨trivial, ?_⟩; first | (intro row h; rcases List.mem_singleton.1 h with rfl; exact nvB _) | (intro row h; cases h; done) | (simp; done)) | (refine .inr ⟨by simp [nvP, nvP.nvPs, nvD, nilS, errno], ?_⟩; first | (intro row h; rcases List.mem_singleton.1 h with rfl; exact nvB _) | (intro row h; cases h; done) | (simp [nvRow, nvD, nvP]; done))) ?_
  simp only [bool, hpe, FinR, evRes, evRVs, evRV, am, simprocAttr, tys]
  exact ⟨_, [], [], rfl, Ent.plain rfl rfl rfl trivial rfl, rfl, rfl⟩
end Go.Proofs.Ytflpphgccjlkjaa

set_option linter.unusedSimpArgs false
set_option linter.unusedVariables false
namespace Go.Proofs.Ytflpphgccjlkjaa
open Go Go.AM

/-! ## a note as bytes -/
def numB (x : NT) : List (List UInt8) := [leb x.f.toNat, leb x.t.toNat, leb x.v.toNat, leb x.n.toNat, leb x.i.toNat, leb x.s.toNat, [if x.ld then 1 else 0],
  leb x.l0.toNat, leb x.l1.toNat, leb x.l2.toNat, leb x.l3.toNat, leb x.l4.toNat, leb x.l5.toNat, leb x.l6.toNat]
def putE (e : EntT) : List UInt8 := leb e.1.toNat ++ leb e.2.1.toNat ++ putO e.2.2.1
def headB (x : NT) (i : Nat) : List UInt8 := x.k :: ((numB x).take i).flatten
def bodyN (x : NT) : List UInt8 := headB x 14 ++ leb x.log.length ++ fl putE x.log

theorem fits_of {a n : Int} (h : outB a n = false) : a ≤ n ∧ n ≤ 1099511627776 := by
  unfold outB at h
  simp only [Bool.or_eq_false_iff, decide_eq_false_iff_not] at h
  omega
theorem fitsB_mem {a : Int} {l : List Int} (h : fitsB a l = true) : ∀ n ∈ l, a ≤ n ∧ n ≤ 1099511627776 := fun n hn => by
  unfold fitsB at h
  rw [Bool.not_eq_true', List.any_eq_false] at h
  exact fits_of (by simpa using h n hn)
theorem place_of {n : Int} (h : placeB n = true) : 0 ≤ n ∧ n < 7 := by
  unfold placeB at h
  simpa using h
structure RightF (x : NT) : Prop where
  k1 : 1 ≤ x.k.toNat
  k6 : x.k.toNat ≤ 6
  f : 0 ≤ x.f ∧ x.f < 7
  t : 0 ≤ x.t ∧ x.t < 7
  ft : x.f ≠ x.t
  v : 0 ≤ x.v ∧ x.v ≤ 1099511627776
  n : 0 ≤ x.n ∧ x.n ≤ 1099511627776
  i : 0 ≤ x.i ∧ x.i ≤ 1099511627776
  s : 0 ≤ x.s ∧ x.s ≤ 1099511627776
  l0 : 0 ≤ x.l0 ∧ x.l0 ≤ 1099511627776
  l1 : 0 ≤ x.l1 ∧ x.l1 ≤ 1099511627776
  l2 : 0 ≤ x.l2 ∧ x.l2 ≤ 1099511627776
  l3 : 0 ≤ x.l3 ∧ x.l3 ≤ 1099511627776
  l4 : 0 ≤ x.l4 ∧ x.l4 ≤ 1099511627776
  l5 : 0 ≤ x.l5 ∧ x.l5 ≤ 1099511627776
  l6 : 0 ≤ x.l6 ∧ x.l6 ≤ 1099511627776
  ll : x.log.length ≤ 300
  e : ∀ e ∈ x.log, 0 ≤ e.1 ∧ e.1 < 8 ∧ 1 ≤ e.2.1 ∧ e.2.1 ≤ 1099511627776 ∧ rightO e.2.2.1 = true
theorem rightN_of {x : NT} (h : rightN x = true) : RightF x := by
  unfold rightN headN numsN at h
  simp only [Bool.and_eq_true, Bool.not_eq_true', decide_eq_false_iff_not, beq_eq_false_iff_ne, List.all_eq_true] at h
  obtain ⟨⟨a1, a2, a3, a4, a5⟩, ⟨b1, b2, b3⟩, c⟩ := h
  have b1 := fitsB_mem b1
  have b2 := fitsB_mem b2
  refine ⟨by omega, by omega, place_of a3, place_of a4, a5, b1 _ (by simp), b1 _ (by simp), b1 _ (by simp), b1 _ (by simp), b2 _ (by simp), b2 _ (by simp), b2 _ (by simp), b2 _ (by simp), b2 _ (by simp), b2 _ (by simp), b2 _ (by simp), by omega, fun e he => ?_⟩
  have := c e he
  unfold mayE at this
  simp only [Bool.and_eq_true, decide_eq_true_eq] at this
  obtain ⟨d1, d2, d3, d4⟩ := this
  have d3 := fitsB_mem d3 e.2.1 (by simp)
  exact ⟨d1, d2, d3.1, d3.2, d4⟩
theorem lebt (n : Int) (h : 0 ≤ n ∧ n ≤ 1099511627776) : (leb n.toNat).length ≤ 10 := leb_ten _ (by omega)
theorem w64 (n : Int) (h : 0 ≤ n ∧ n ≤ 1099511627776) : IntKind.u64.wrap n = ((n.toNat : Nat) : Int) := by rw [IntWalk.u64_in _ (by omega)]; omega
theorem headB_len {x : NT} (h : RightF x) (i : Nat) : (headB x i).length ≤ 141 := by
  have q : ∀ l ∈ numB x, l.length ≤ 10 := fun l hl => by
    simp only [numB, List.mem_cons, List.not_mem_nil, or_false] at hl
    rcases hl with rfl | rfl | rfl | rfl | rfl | rfl | rfl | rfl | rfl | rfl | rfl | rfl | rfl | rfl
    · exact lebt _ ⟨h.f.1, by have := h.f.2; omega⟩
    · exact lebt _ ⟨h.t.1, by have := h.t.2; omega⟩
    · exact lebt _ h.v
    · exact lebt _ h.n
    · exact lebt _ h.i
    · exact lebt _ h.s
    · simp
    · exact lebt _ h.l0
    · exact lebt _ h.l1
    · exact lebt _ h.l2
    · exact lebt _ h.l3
    · exact lebt _ h.l4
    · exact lebt _ h.l5
    · exact lebt _ h.l6
  have e := fl_len (id : List UInt8 → List UInt8) 10 ((numB x).take i) fun l hl => q l (List.mem_of_mem_take hl)
  have hl : ((numB x).take i).length ≤ 14 := by simp [numB]; omega
  unfold headB
  have e2 : fl (id : List UInt8 → List UInt8) ((numB x).take i) = ((numB x).take i).flatten := by simp [fl]
  rw [e2] at e
  rw [List.length_cons]; omega
theorem putE_len {x : NT} (h : RightF x) (hx : FitN x) (e : EntT) (he : e ∈ x.log) : (putE e).length ≤ 940 := by
  obtain ⟨a, b, c, d, r⟩ := h.e e he
  have := putO_len (hx.he e he).2.2 r
  have := lebt e.1 ⟨a, by omega⟩
  have := lebt e.2.1 ⟨by omega, d⟩
  simp only [putE, List.length_append]; omega
theorem logB_len {x : NT} (h : RightF x) (hx : FitN x) (i : Nat) : (fl putE (x.log.take i)).length ≤ 282000 := by
  have e := fl_len putE 940 (x.log.take i) fun e he => putE_len h hx e (List.mem_of_mem_take he)
  have : (x.log.take i).length ≤ 300 := by have := h.ll; simp; omega
  have : (x.log.take i).length * 940 ≤ 300 * 940 := Nat.mul_le_mul_right _ this
  omega
theorem headB_succ (x : NT) (i : Nat) (b : List UInt8) (h : (numB x)[i]? = some b) : headB x i ++ b = headB x (i + 1) := by
  unfold headB
  rw [List.take_add_one, h]; simp
theorem logB_succ (x : NT) (i : Nat) (h : i < x.log.length) : fl putE (x.log.take i) ++ putE x.log[i] = fl putE (x.log.take (i + 1)) := by
  rw [List.take_succ_eq_append_getElem h, fl_snoc]

theorem notePutN (x : NT) (h : FitN x) (hr : rightN x = false) : AFun Try.prog 12 [.d (.agg (encN x))] [] (.tup [nilS, errno 1]) [] := by
  refine AFun.of_walk hP Try.func12 rfl rfl rfl (by simp) rfl ?_
  have c := noteRight x h
  rw [hr] at c
  simp only [encN] at c
  simp only [Try.f12, encN, am, simprocAttr, tys]
  refine ACall.of (c) [] [] rfl (by simp) (by simp) (by simp) (by repeat' (first | exact trivial | exact .inl rfl | exact .inr rfl | exact .inr ⟨rfl, rfl, rfl, by simp; done⟩ | exact .inr ⟨rfl, by simp; done⟩ | exact .inr ⟨rfl, rfl, by simp; done⟩ | apply And.intro)) (by repeat' (first | exact trivial | rfl | exact (tkC_ren.1 _ _).symm | (simp; done) | apply And.intro)) (by first | exact .inl rfl | (refine .inr ⟨trivial, ?_⟩; first | (intro row h; rcases List.mem_singleton.1 h with rfl; exact nvB _) | (intro row h; cases h; done) | (simp; done)) | (refine .inr ⟨by simp [nvP, nvP.nvPs, nvD, nilS, errno], ?_⟩; first | (intro row h; rcases List.mem_singleton.1 h with rfl; exact nvB _) | (intro row h; cases h; done) | (simp [nvRow, nvD, nvP]; done))) ?_
  simp only [bool, nilS, errno, FinR, evRes, evRVs, evRV, am, simprocAttr, tys]
  exact ⟨_, [], [], rfl, Ent.plain rfl rfl rfl trivial rfl, rfl, rfl⟩

set_option maxRecDepth 8000 in
set_option maxHeartbeats 4000000 in
theorem notePut (x : NT) (h : FitN x) (hr : rightN x = true) : AFun Try.prog 12 [.d (.agg (encN x))] [] (.tup [.own 0, errno 0]) [.own 1 ((sealed (bodyN x)).map encB)] := by
  refine AFun.of_walk hP Try.func12 rfl rfl rfl (by simp) rfl ?_
  have c := noteRight x h
  have R := rightN_of hr
  rw [hr] at c
  simp only [encN] at c
  have hbl := headB_len R
  simp only [Try.f12, encN, am, simprocAttr, tys]
  refine ACall.of (c) [] [] rfl (by simp) (by simp) (by simp) (by repeat' (first | exact trivial | exact .inl rfl | exact .inr rfl | exact .inr ⟨rfl, rfl, rfl, by simp; done⟩ | exact .inr ⟨rfl, by simp; done⟩ | exact .inr ⟨rfl, rfl, by simp; done⟩ | apply And.intro)) (by repeat' (first | exact trivial | rfl | exact (tkC_ren.1 _ _).symm | (simp; done) | apply And.intro)) (by first | exact .inl rfl | (refine .inr ⟨trivial, ?_⟩; first | (intro row h; rcases List.mem_singleton.1 h with rfl; exact nvB _) | (intro row h; cases h; done) | (simp; done)) | (refine .inr ⟨by simp [nvP, nvP.nvPs, nvD, nilS, errno], ?_⟩; first | (intro row h; rcases List.mem_singleton.1 h with rfl; exact nvB _) | (intro row h; cases h; done) | (simp [nvRow, nvD, nvP]; done))) ?_
  simp only [bool, am, simprocAttr, tys]
  refine ACall.of (noteNumbersL (fun j => (encN x).getD j.val nlD)) [0] [] rfl (by simp) (by simp) (by simp) (by repeat' (first | exact trivial | exact .inl rfl | exact .inr rfl | exact .inr ⟨rfl, rfl, rfl, by simp; done⟩ | exact .inr ⟨rfl, by simp; done⟩ | exact .inr ⟨rfl, rfl, by simp; done⟩ | apply And.intro)) (by repeat' (first | exact trivial | rfl | exact (tkC_ren.1 _ _).symm | (simp; done) | apply And.intro)) (by first | exact .inl rfl | (refine .inr ⟨trivial, ?_⟩; first | (intro row h; rcases List.mem_singleton.1 h with rfl; exact nvB _) | (intro row h; cases h; done) | (simp; done)) | (refine .inr ⟨by simp [nvP, nvP.nvPs, nvD, nilS, errno], ?_⟩; first | (intro row h; rcases List.mem_singleton.1 h with rfl; exact nvB _) | (intro row h; cases h; done) | (simp [nvRow, nvD, nvP]; done))) ?_
  simp only [nums, am, simprocAttr, tys]
  refine ALoopW.intro 78 0 (ι := { i : Nat // i ≤ 14 }) (fun i => [(1, .ptr 0 0), (4, .own 1), (17, .own 2), (18, int 14), (19, int i.1)]) (fun i => [.box ((encN x).map .d), .own 1 ((headB x i.1).map encB), .box nums]) (fun i => 14 - i.1) ⟨0, by omega⟩ [] [0, 1, 2] ?_ (fun ⟨i, hi⟩ => ?_)
  · exact ⟨rfl, rfl, by simp, (fun i hi => absurd hi (Nat.not_lt_zero _)), ⟨.inr rfl, .inr rfl, .inr rfl, .inr rfl, .inr rfl, trivial⟩, ⟨.inr ⟨by decide, rfl⟩, .inr ⟨by decide, rfl⟩, .inr ⟨by decide, rfl⟩, trivial⟩, rfl, by decide, rfl, (by first | rfl | simp [scRow, tkC_scs])⟩
  simp only
  rcases (by omega : i = 0 ∨ i = 1 ∨ i = 2 ∨ i = 3 ∨ i = 4 ∨ i = 5 ∨ i = 6 ∨ i = 7 ∨ i = 8 ∨ i = 9 ∨ i = 10 ∨ i = 11 ∨ i = 12 ∨ i = 13 ∨ i = 14) with rfl | rfl | rfl | rfl | rfl | rfl | rfl | rfl | rfl | rfl | rfl | rfl | rfl | rfl | rfl
  · have hb := headB_succ x 0 _ rfl
    simp only [int, encN, nums, nilP, Int.cast_ofNat_Int, List.map_cons, List.map_nil, (w64 x.f ⟨R.f.1, by have := R.f.2; omega⟩), am, simprocAttr, tys]
    refine ACall.of (octsPut (headB x 0) x.f.toNat (by have := hbl 0; omega) (by have := R.f.2; omega)) [] [1] rfl (by simp) (by simp) (by simp) (by repeat' (first | exact trivial | exact .inl rfl | exact .inr rfl | exact .inr ⟨rfl, rfl, rfl, by simp; done⟩ | exact .inr ⟨rfl, by simp; done⟩ | exact .inr ⟨rfl, rfl, by simp; done⟩ | apply And.intro)) (by repeat' (first | exact trivial | rfl | exact (tkC_ren.1 _ _).symm | (simp; done) | apply And.intro)) (by first | exact .inl rfl | (refine .inr ⟨trivial, ?_⟩; first | (intro row h; rcases List.mem_singleton.1 h with rfl; exact nvB _) | (intro row h; cases h; done) | (simp; done)) | (refine .inr ⟨by simp [nvP, nvP.nvPs, nvD, nilS, errno], ?_⟩; first | (intro row h; rcases List.mem_singleton.1 h with rfl; exact nvB _) | (intro row h; cases h; done) | (simp [nvRow, nvD, nvP]; done))) ?_
    simp only [hb, am, simprocAttr, tys]
    exact ⟨⟨1, by omega⟩, [], [0, 3, 2], ⟨rfl, rfl, by simp, (fun i hi => absurd hi (Nat.not_lt_zero _)), ⟨.inr rfl, .inr rfl, .inr rfl, .inr rfl, .inr rfl, trivial⟩, ⟨.inr ⟨by decide, rfl⟩, .inr ⟨by decide, rfl⟩, .inr ⟨by decide, rfl⟩, trivial⟩, rfl, by decide, rfl, (by first | rfl | simp [scRow, tkC_scs])⟩, by show 14 - 1 < 14 - 0; decide⟩
  · have hb := headB_succ x 1 _ rfl
    simp only [int, encN, nums, nilP, Int.cast_ofNat_Int, List.map_cons, List.map_nil, (w64 x.t ⟨R.t.1, by have := R.t.2; omega⟩), am, simprocAttr, tys]
    refine ACall.of (octsPut (headB x 1) x.t.toNat (by have := hbl 1; omega) (by have := R.t.2; omega)) [] [1] rfl (by simp) (by simp) (by simp) (by repeat' (first | exact trivial | exact .inl rfl | exact .inr rfl | exact .inr ⟨rfl, rfl, rfl, by simp; done⟩ | exact .inr ⟨rfl, by simp; done⟩ | exact .inr ⟨rfl, rfl, by simp; done⟩ | apply And.intro)) (by repeat' (first | exact trivial | rfl | exact (tkC_ren.1 _ _).symm | (simp; done) | apply And.intro)) (by first | exact .inl rfl | (refine .inr ⟨trivial, ?_⟩; first | (intro row h; rcases List.mem_singleton.1 h with rfl; exact nvB _) | (intro row h; cases h; done) | (simp; done)) | (refine .inr ⟨by simp [nvP, nvP.nvPs, nvD, nilS, errno], ?_⟩; first | (intro row h; rcases List.mem_singleton.1 h with rfl; exact nvB _) | (intro row h; cases h; done) | (simp [nvRow, nvD, nvP]; done))) ?_
    simp only [hb, am, simprocAttr, tys]
    exact ⟨⟨2, by omega⟩, [], [0, 3, 2], ⟨rfl, rfl, by simp, (fun i hi => absurd hi (Nat.not_lt_zero _)), ⟨.inr rfl, .inr rfl, .inr rfl, .inr rfl, .inr rfl, trivial⟩, ⟨.inr ⟨by decide, rfl⟩, .inr ⟨by decide, rfl⟩, .inr ⟨by decide, rfl⟩, trivial⟩, rfl, by decide, rfl, (by first | rfl | simp [scRow, tkC_scs])⟩, by show 14 - 2 < 14 - 1; decide⟩
  · have hb := headB_succ x 2 _ rfl
    simp only [int, encN, nums, nilP, Int.cast_ofNat_Int, List.map_cons, List.map_nil, (w64 x.v ⟨R.v.1, by have := R.v.2; omega⟩), am, simprocAttr, tys]
    refine ACall.of (octsPut (headB x 2) x.v.toNat (by have := hbl 2; omega) (by have := R.v.2; omega)) [] [1] rfl (by simp) (by simp) (by simp) (by repeat' (first | exact trivial | exact .inl rfl | exact .inr rfl | exact .inr ⟨rfl, rfl, rfl, by simp; done⟩ | exact .inr ⟨rfl, by simp; done⟩ | exact .inr ⟨rfl, rfl, by simp; done⟩ | apply And.intro)) (by repeat' (first | exact trivial | rfl | exact (tkC_ren.1 _ _).symm | (simp; done) | apply And.intro)) (by first | exact .inl rfl | (refine .inr ⟨trivial, ?_⟩; first | (intro row h; rcases List.mem_singleton.1 h with rfl; exact nvB _) | (intro row h; cases h; done) | (simp; done)) | (refine .inr ⟨by simp [nvP, nvP.nvPs, nvD, nilS, errno], ?_⟩; first | (intro row h; rcases List.mem_singleton.1 h with rfl; exact nvB _) | (intro row h; cases h; done) | (simp [nvRow, nvD, nvP]; done))) ?_
    simp only [hb, am, simprocAttr, tys]
    exact ⟨⟨3, by omega⟩, [], [0, 3, 2], ⟨rfl, rfl, by simp, (fun i hi => absurd hi (Nat.not_lt_zero _)), ⟨.inr rfl, .inr rfl, .inr rfl, .inr rfl, .inr rfl, trivial⟩, ⟨.inr ⟨by decide, rfl⟩, .inr ⟨by decide, rfl⟩, .inr ⟨by decide, rfl⟩, trivial⟩, rfl, by decide, rfl, (by first | rfl | simp [scRow, tkC_scs])⟩, by show 14 - 3 < 14 - 2; decide⟩
  · have hb := headB_succ x 3 _ rfl
    simp only [int, encN, nums, nilP, Int.cast_ofNat_Int, List.map_cons, List.map_nil, (w64 x.n ⟨R.n.1, by have := R.n.2; omega⟩), am, simprocAttr, tys]
    refine ACall.of (octsPut (headB x 3) x.n.toNat (by have := hbl 3; omega) (by have := R.n.2; omega)) [] [1] rfl (by simp) (by simp) (by simp) (by repeat' (first | exact trivial | exact .inl rfl | exact .inr rfl | exact .inr ⟨rfl, rfl, rfl, by simp; done⟩ | exact .inr ⟨rfl, by simp; done⟩ | exact .inr ⟨rfl, rfl, by simp; done⟩ | apply And.intro)) (by repeat' (first | exact trivial | rfl | exact (tkC_ren.1 _ _).symm | (simp; done) | apply And.intro)) (by first | exact .inl rfl | (refine .inr ⟨trivial, ?_⟩; first | (intro row h; rcases List.mem_singleton.1 h with rfl; exact nvB _) | (intro row h; cases h; done) | (simp; done)) | (refine .inr ⟨by simp [nvP, nvP.nvPs, nvD, nilS, errno], ?_⟩; first | (intro row h; rcases List.mem_singleton.1 h with rfl; exact nvB _) | (intro row h; cases h; done) | (simp [nvRow, nvD, nvP]; done))) ?_
    simp only [hb, am, simprocAttr, tys]
    exact ⟨⟨4, by omega⟩, [], [0, 3, 2], ⟨rfl, rfl, by simp, (fun i hi => absurd hi (Nat.not_lt_zero _)), ⟨.inr rfl, .inr rfl, .inr rfl, .inr rfl, .inr rfl, trivial⟩, ⟨.inr ⟨by decide, rfl⟩, .inr ⟨by decide, rfl⟩, .inr ⟨by decide, rfl⟩, trivial⟩, rfl, by decide, rfl, (by first | rfl | simp [scRow, tkC_scs])⟩, by show 14 - 4 < 14 - 3; decide⟩
  · have hb := headB_succ x 4 _ rfl
    simp only [int, encN, nums, nilP, Int.cast_ofNat_Int, List.map_cons, List.map_nil, (w64 x.i ⟨R.i.1, by have := R.i.2; omega⟩), am, simprocAttr, tys]
    refine ACall.of (octsPut (headB x 4) x.i.toNat (by have := hbl 4; omega) (by have := R.i.2; omega)) [] [1] rfl (by simp) (by simp) (by simp) (by repeat' (first | exact trivial | exact .inl rfl | exact .inr rfl | exact .inr ⟨rfl, rfl, rfl, by simp; done⟩ | exact .inr ⟨rfl, by simp; done⟩ | exact .inr ⟨rfl, rfl, by simp; done⟩ | apply And.intro)) (by repeat' (first | exact trivial | rfl | exact (tkC_ren.1 _ _).symm | (simp; done) | apply And.intro)) (by first | exact .inl rfl | (refine .inr ⟨trivial, ?_⟩; first | (intro row h; rcases List.mem_singleton.1 h with rfl; exact nvB _) | (intro row h; cases h; done) | (simp; done)) | (refine .inr ⟨by simp [nvP, nvP.nvPs, nvD, nilS, errno], ?_⟩; first | (intro row h; rcases List.mem_singleton.1 h with rfl; exact nvB _) | (intro row h; cases h; done) | (simp [nvRow, nvD, nvP]; done))) ?_
    simp only [hb, am, simprocAttr, tys]
    exact ⟨⟨5, by omega⟩, [], [0, 3, 2], ⟨rfl, rfl, by simp, (fun i hi => absurd hi (Nat.not_lt_zero _)), ⟨.inr rfl, .inr rfl, .inr rfl, .inr rfl, .inr rfl, trivial⟩, ⟨.inr ⟨by decide, rfl⟩, .inr ⟨by decide, rfl⟩, .inr ⟨by decide, rfl⟩, trivial⟩, rfl, by decide, rfl, (by first | rfl | simp [scRow, tkC_scs])⟩, by show 14 - 5 < 14 - 4; decide⟩
  · have hb := headB_succ x 5 _ rfl
    simp only [int, encN, nums, nilP, Int.cast_ofNat_Int, List.map_cons, List.map_nil, (w64 x.s ⟨R.s.1, by have := R.s.2; omega⟩), am, simprocAttr, tys]
    refine ACall.of (octsPut (headB x 5) x.s.toNat (by have := hbl 5; omega) (by have := R.s.2; omega)) [] [1] rfl (by simp) (by simp) (by simp) (by repeat' (first | exact trivial | exact .inl rfl | exact .inr rfl | exact .inr ⟨rfl, rfl, rfl, by simp; done⟩ | exact .inr ⟨rfl, by simp; done⟩ | exact .inr ⟨rfl, rfl, by simp; done⟩ | apply And.intro)) (by repeat' (first | exact trivial | rfl | exact (tkC_ren.1 _ _).symm | (simp; done) | apply And.intro)) (by first | exact .inl rfl | (refine .inr ⟨trivial, ?_⟩; first | (intro row h; rcases List.mem_singleton.1 h with rfl; exact nvB _) | (intro row h; cases h; done) | (simp; done)) | (refine .inr ⟨by simp [nvP, nvP.nvPs, nvD, nilS, errno], ?_⟩; first | (intro row h; rcases List.mem_singleton.1 h with rfl; exact nvB _) | (intro row h; cases h; done) | (simp [nvRow, nvD, nvP]; done))) ?_
    simp only [hb, am, simprocAttr, tys]
    exact ⟨⟨6, by omega⟩, [], [0, 3, 2], ⟨rfl, rfl, by simp, (fun i hi => absurd hi (Nat.not_lt_zero _)), ⟨.inr rfl, .inr rfl, .inr rfl, .inr rfl, .inr rfl, trivial⟩, ⟨.inr ⟨by decide, rfl⟩, .inr ⟨by decide, rfl⟩, .inr ⟨by decide, rfl⟩, trivial⟩, rfl, by decide, rfl, (by first | rfl | simp [scRow, tkC_scs])⟩, by show 14 - 6 < 14 - 5; decide⟩
  · have hb := headB_succ x 6 _ rfl
    have h6 := hbl 6
    rcases hld : x.ld with _ | _
    · rw [hld] at hb
      have eb : (headB x 6).map encB ++ [[DV.lit (.int .u8 0)]] = (headB x 7).map encB := by rw [← hb, List.map_append]; rfl
      simp only [int, encN, nums, nilP, hld, Int.cast_ofNat_Int, List.map_cons, List.map_nil, eb, List.length_map, am, simprocAttr, tys]
      exact ⟨by omega, ⟨7, by omega⟩, [], [0, 4, 2], ⟨rfl, rfl, by simp, (fun i hi => absurd hi (Nat.not_lt_zero _)), ⟨.inr rfl, .inr rfl, .inr rfl, .inr rfl, .inr rfl, trivial⟩, ⟨.inr ⟨by decide, rfl⟩, .inr ⟨by decide, rfl⟩, .inr ⟨by decide, rfl⟩, trivial⟩, rfl, by decide, rfl, (by first | rfl | simp [scRow, tkC_scs])⟩, by show 14 - 7 < 14 - 6; decide⟩
    · rw [hld] at hb
      have eb : (headB x 6).map encB ++ [[DV.lit (.int .u8 1)]] = (headB x 7).map encB := by rw [← hb, List.map_append]; rfl
      simp only [int, encN, nums, nilP, hld, Int.cast_ofNat_Int, List.map_cons, List.map_nil, eb, List.length_map, am, simprocAttr, tys]
      exact ⟨by omega, ⟨7, by omega⟩, [], [0, 4, 2], ⟨rfl, rfl, by simp, (fun i hi => absurd hi (Nat.not_lt_zero _)), ⟨.inr rfl, .inr rfl, .inr rfl, .inr rfl, .inr rfl, trivial⟩, ⟨.inr ⟨by decide, rfl⟩, .inr ⟨by decide, rfl⟩, .inr ⟨by decide, rfl⟩, trivial⟩, rfl, by decide, rfl, (by first | rfl | simp [scRow, tkC_scs])⟩, by show 14 - 7 < 14 - 6; decide⟩
  · have hb := headB_succ x 7 _ rfl
    simp only [int, encN, nums, nilP, Int.cast_ofNat_Int, List.map_cons, List.map_nil, (w64 x.l0 ⟨R.l0.1, by have := R.l0.2; omega⟩), am, simprocAttr, tys]
    refine ACall.of (octsPut (headB x 7) x.l0.toNat (by have := hbl 7; omega) (by have := R.l0.2; omega)) [] [1] rfl (by simp) (by simp) (by simp) (by repeat' (first | exact trivial | exact .inl rfl | exact .inr rfl | exact .inr ⟨rfl, rfl, rfl, by simp; done⟩ | exact .inr ⟨rfl, by simp; done⟩ | exact .inr ⟨rfl, rfl, by simp; done⟩ | apply And.intro)) (by repeat' (first | exact trivial | rfl | exact (tkC_ren.1 _ _).symm | (simp; done) | apply And.intro)) (by first | exact .inl rfl | (refine .inr ⟨trivial, ?_⟩; first | (intro row h; rcases List.mem_singleton.1 h with rfl; exact nvB _) | (intro row h; cases h; done) | (simp; done)) | (refine .inr ⟨by simp [nvP, nvP.nvPs, nvD, nilS, errno], ?_⟩; first | (intro row h; rcases List.mem_singleton.1 h with rfl; exact nvB _) | (intro row h; cases h; done) | (simp [nvRow, nvD, nvP]; done))) ?_
    simp only [hb, am, simprocAttr, tys]
    exact ⟨⟨8, by omega⟩, [], [0, 3, 2], ⟨rfl, rfl, by simp, (fun i hi => absurd hi (Nat.not_lt_zero _)), ⟨.inr rfl, .inr rfl, .inr rfl, .inr rfl, .inr rfl, trivial⟩, ⟨.inr ⟨by decide, rfl⟩, .inr ⟨by decide, rfl⟩, .inr ⟨by decide, rfl⟩, trivial⟩, rfl, by decide, rfl, (by first | rfl | simp [scRow, tkC_scs])⟩, by show 14 - 8 < 14 - 7; decide⟩
  · have hb := headB_succ x 8 _ rfl
    simp only [int, encN, nums, nilP, Int.cast_ofNat_Int, List.map_cons, List.map_nil, (w64 x.l1 ⟨R.l1.1, by have := R.l1.2; omega⟩), am, simprocAttr, tys]
    refine ACall.of (octsPut (headB x 8) x.l1.toNat (by have := hbl 8; omega) (by have := R.l1.2; omega)) [] [1] rfl (by simp) (by simp) (by simp) (by repeat' (first | exact trivial | exact .inl rfl | exact .inr rfl | exact .inr ⟨rfl, rfl, rfl, by simp; done⟩ | exact .inr ⟨rfl, by simp; done⟩ | exact .inr ⟨rfl, rfl, by simp; done⟩ | apply And.intro)) (by repeat' (first | exact trivial | rfl | exact (tkC_ren.1 _ _).symm | (simp; done) | apply And.intro)) (by first | exact .inl rfl | (refine .inr ⟨trivial, ?_⟩; first | (intro row h; rcases List.mem_singleton.1 h with rfl; exact nvB _) | (intro row h; cases h; done) | (simp; done)) | (refine .inr ⟨by simp [nvP, nvP.nvPs, nvD, nilS, errno], ?_⟩; first | (intro row h; rcases List.mem_singleton.1 h with rfl; exact nvB _) | (intro row h; cases h; done) | (simp [nvRow, nvD, nvP]; done))) ?_
    simp only [hb, am, simprocAttr, tys]
    exact ⟨⟨9, by omega⟩, [], [0, 3, 2], ⟨rfl, rfl, by simp, (fun i hi => absurd hi (Nat.not_lt_zero _)), ⟨.inr rfl, .inr rfl, .inr rfl, .inr rfl, .inr rfl, trivial⟩, ⟨.inr ⟨by decide, rfl⟩, .inr ⟨by decide, rfl⟩, .inr ⟨by decide, rfl⟩, trivial⟩, rfl, by decide, rfl, (by first | rfl | simp [scRow, tkC_scs])⟩, by show 14 - 9 < 14 - 8; decide⟩
  · have hb := headB_succ x 9 _ rfl
    simp only [int, encN, nums, nilP, Int.cast_ofNat_Int, List.map_cons, List.map_nil, (w64 x.l2 ⟨R.l2.1, by have := R.l2.2; omega⟩), am, simprocAttr, tys]
    refine ACall.of (octsPut (headB x 9) x.l2.toNat (by have := hbl 9; omega) (by have := R.l2.2; omega)) [] [1] rfl (by simp) (by simp) (by simp) (by repeat' (first | exact trivial | exact .inl rfl | exact .inr rfl | exact .inr ⟨rfl, rfl, rfl, by simp; done⟩ | exact .inr ⟨rfl, by simp; done⟩ | exact .inr ⟨rfl, rfl, by simp; done⟩ | apply And.intro)) (by repeat' (first | exact trivial | rfl | exact (tkC_ren.1 _ _).symm | (simp; done) | apply And.intro)) (by first | exact .inl rfl | (refine .inr ⟨trivial, ?_⟩; first | (intro row h; rcases List.mem_singleton.1 h with rfl; exact nvB _) | (intro row h; cases h; done) | (simp; done)) | (refine .inr ⟨by simp [nvP, nvP.nvPs, nvD, nilS, errno], ?_⟩; first | (intro row h; rcases List.mem_singleton.1 h with rfl; exact nvB _) | (intro row h; cases h; done) | (simp [nvRow, nvD, nvP]; done))) ?_
    simp only [hb, am, simprocAttr, tys]
    exact ⟨⟨10, by omega⟩, [], [0, 3, 2], ⟨rfl, rfl, by simp, (fun i hi => absurd hi (Nat.not_lt_zero _)), ⟨.inr rfl, .inr rfl, .inr rfl, .inr rfl, .inr rfl, trivial⟩, ⟨.inr ⟨by decide, rfl⟩, .inr ⟨by decide, rfl⟩, .inr ⟨by decide, rfl⟩, trivial⟩, rfl, by decide, rfl, (by first | rfl | simp [scRow, tkC_scs])⟩, by show 14 - 10 < 14 - 9; decide⟩
  · have hb := headB_succ x 10 _ rfl
    simp only [int, encN, nums, nilP, Int.cast_ofNat_Int, List.map_cons, List.map_nil, (w64 x.l3 ⟨R.l3.1, by have := R.l3.2; omega⟩), am, simprocAttr, tys]
    refine ACall.of (octsPut (headB x 10) x.l3.toNat (by have := hbl 10; omega) (by have := R.l3.2; omega)) [] [1] rfl (by simp) (by simp) (by simp) (by repeat' (first | exact trivial | exact .inl rfl | exact .inr rfl | exact .inr ⟨rfl, rfl, rfl, by simp; done⟩ | exact .inr ⟨rfl, by simp; done⟩ | exact .inr ⟨rfl, rfl, by simp; done⟩ | apply And.intro)) (by repeat' (first | exact trivial | rfl | exact (tkC_ren.1 _ _).symm | (simp; done) | apply And.intro)) (by first | exact .inl rfl | (refine .inr ⟨trivial, ?_⟩; first | (intro row h; rcases List.mem_singleton.1 h with rfl; exact nvB _) | (intro row h; cases h; done) | (simp; done)) | (refine .inr ⟨by simp [nvP, nvP.nvPs, nvD, nilS, errno], ?_⟩; first | (intro row h; rcases List.mem_singleton.1 h with rfl; exact nvB _) | (intro row h; cases h; done) | (simp [nvRow, nvD, nvP]; done))) ?_
    simp only [hb, am, simprocAttr, tys]
    exact ⟨⟨11, by omega⟩, [], [0, 3, 2], ⟨rfl, rfl, by simp, (fun i hi => absurd hi (Nat.not_lt_zero _)), ⟨.inr rfl, .inr rfl, .inr rfl, .inr rfl, .inr rfl, trivial⟩, ⟨.inr ⟨by decide, rfl⟩, .inr ⟨by decide, rfl⟩, .inr ⟨by decide, rfl⟩, trivial⟩, rfl, by decide, rfl, (by first | rfl | simp [scRow, tkC_scs])⟩, by show 14 - 11 < 14 - 10; decide⟩
  · have hb := headB_succ x 11 _ rfl
    simp only [int, encN, nums, nilP, Int.cast_ofNat_Int, List.map_cons, List.map_nil, (w64 x.l4 ⟨R.l4.1, by have := R.l4.2; omega⟩), am, simprocAttr, tys]
    refine ACall.of (octsPut (headB x 11) x.l4.toNat (by have := hbl 11; omega) (by have := R.l4.2; omega)) [] [1] rfl (by simp) (by simp) (by simp) (by repeat' (first | exact trivial | exact .inl rfl | exact .inr rfl | exact .inr ⟨rfl, rfl, rfl, by simp; done⟩ | exact .inr ⟨rfl, by simp; done⟩ | exact .inr ⟨rfl, rfl, by simp; done⟩ | apply And.intro)) (by repeat' (first | exact trivial | rfl | exact (tkC_ren.1 _ _).symm | (simp; done) | apply And.intro)) (by first | exact .inl rfl | (refine .inr ⟨trivial, ?_⟩; first | (intro row h; rcases List.mem_singleton.1 h with rfl; exact nvB _) | (intro row h; cases h; done) | (simp; done)) | (refine .inr ⟨by simp [nvP, nvP.nvPs, nvD, nilS, errno], ?_⟩; first | (intro row h; rcases List.mem_singleton.1 h with rfl; exact nvB _) | (intro row h; cases h; done) | (simp [nvRow, nvD, nvP]; done))) ?_
    simp only [hb, am, simprocAttr, tys]
    exact ⟨⟨12, by omega⟩, [], [0, 3, 2], ⟨rfl, rfl, by simp, (fun i hi => absurd hi (Nat.not_lt_zero _)), ⟨.inr rfl, .inr rfl, .inr rfl, .inr rfl, .inr rfl, trivial⟩, ⟨.inr ⟨by decide, rfl⟩, .inr ⟨by decide, rfl⟩, .inr ⟨by decide, rfl⟩, trivial⟩, rfl, by decide, rfl, (by first | rfl | simp [scRow, tkC_scs])⟩, by show 14 - 12 < 14 - 11; decide⟩
  · have hb := headB_succ x 12 _ rfl
    simp only [int, encN, nums, nilP, Int.cast_ofNat_Int, List.map_cons, List.map_nil, (w64 x.l5 ⟨R.l5.1, by have := R.l5.2; omega⟩), am, simprocAttr, tys]
    refine ACall.of (octsPut (headB x 12) x.l5.toNat (by have := hbl 12; omega) (by have := R.l5.2; omega)) [] [1] rfl (by simp) (by simp) (by simp) (by repeat' (first | exact trivial | exact .inl rfl | exact .inr rfl | exact .inr ⟨rfl, rfl, rfl, by simp; done⟩ | exact .inr ⟨rfl, by simp; done⟩ | exact .inr ⟨rfl, rfl, by simp; done⟩ | apply And.intro)) (by repeat' (first | exact trivial | rfl | exact (tkC_ren.1 _ _).symm | (simp; done) | apply And.intro)) (by first | exact .inl rfl | (refine .inr ⟨trivial, ?_⟩; first | (intro row h; rcases List.mem_singleton.1 h with rfl; exact nvB _) | (intro row h; cases h; done) | (simp; done)) | (refine .inr ⟨by simp [nvP, nvP.nvPs, nvD, nilS, errno], ?_⟩; first | (intro row h; rcases List.mem_singleton.1 h with rfl; exact nvB _) | (intro row h; cases h; done) | (simp [nvRow, nvD, nvP]; done))) ?_
    simp only [hb, am, simprocAttr, tys]
    exact ⟨⟨13, by omega⟩, [], [0, 3, 2], ⟨rfl, rfl, by simp, (fun i hi => absurd hi (Nat.not_lt_zero _)), ⟨.inr rfl, .inr rfl, .inr rfl, .inr rfl, .inr rfl, trivial⟩, ⟨.inr ⟨by decide, rfl⟩, .inr ⟨by decide, rfl⟩, .inr ⟨by decide, rfl⟩, trivial⟩, rfl, by decide, rfl, (by first | rfl | simp [scRow, tkC_scs])⟩, by show 14 - 13 < 14 - 12; decide⟩
  · have hb := headB_succ x 13 _ rfl
    simp only [int, encN, nums, nilP, Int.cast_ofNat_Int, List.map_cons, List.map_nil, (w64 x.l6 ⟨R.l6.1, by have := R.l6.2; omega⟩), am, simprocAttr, tys]
    refine ACall.of (octsPut (headB x 13) x.l6.toNat (by have := hbl 13; omega) (by have := R.l6.2; omega)) [] [1] rfl (by simp) (by simp) (by simp) (by repeat' (first | exact trivial | exact .inl rfl | exact .inr rfl | exact .inr ⟨rfl, rfl, rfl, by simp; done⟩ | exact .inr ⟨rfl, by simp; done⟩ | exact .inr ⟨rfl, rfl, by simp; done⟩ | apply And.intro)) (by repeat' (first | exact trivial | rfl | exact (tkC_ren.1 _ _).symm | (simp; done) | apply And.intro)) (by first | exact .inl rfl | (refine .inr ⟨trivial, ?_⟩; first | (intro row h; rcases List.mem_singleton.1 h with rfl; exact nvB _) | (intro row h; cases h; done) | (simp; done)) | (refine .inr ⟨by simp [nvP, nvP.nvPs, nvD, nilS, errno], ?_⟩; first | (intro row h; rcases List.mem_singleton.1 h with rfl; exact nvB _) | (intro row h; cases h; done) | (simp [nvRow, nvD, nvP]; done))) ?_
    simp only [hb, am, simprocAttr, tys]
    exact ⟨⟨14, by omega⟩, [], [0, 3, 2], ⟨rfl, rfl, by simp, (fun i hi => absurd hi (Nat.not_lt_zero _)), ⟨.inr rfl, .inr rfl, .inr rfl, .inr rfl, .inr rfl, trivial⟩, ⟨.inr ⟨by decide, rfl⟩, .inr ⟨by decide, rfl⟩, .inr ⟨by decide, rfl⟩, trivial⟩, rfl, by decide, rfl, (by first | rfl | simp [scRow, tkC_scs])⟩, by show 14 - 14 < 14 - 13; decide⟩
  · have w : IntKind.u64.wrap (x.log.length : Int) = ((x.log.length : Nat) : Int) := IntWalk.u64_in _ (by have := R.ll; omega)
    simp only [int, encN, nums, nilP, Int.cast_ofNat_Int, List.map_cons, List.map_nil, List.length_map, w, am, simprocAttr, tys]
    refine ACall.of (octsPut (headB x 14) x.log.length (by have := hbl 14; omega) (by have := R.ll; omega)) [] [1] rfl (by simp) (by simp) (by simp) (by repeat' (first | exact trivial | exact .inl rfl | exact .inr rfl | exact .inr ⟨rfl, rfl, rfl, by simp; done⟩ | exact .inr ⟨rfl, by simp; done⟩ | exact .inr ⟨rfl, rfl, by simp; done⟩ | apply And.intro)) (by repeat' (first | exact trivial | rfl | exact (tkC_ren.1 _ _).symm | (simp; done) | apply And.intro)) (by first | exact .inl rfl | (refine .inr ⟨trivial, ?_⟩; first | (intro row h; rcases List.mem_singleton.1 h with rfl; exact nvB _) | (intro row h; cases h; done) | (simp; done)) | (refine .inr ⟨by simp [nvP, nvP.nvPs, nvD, nilS, errno], ?_⟩; first | (intro row h; rcases List.mem_singleton.1 h with rfl; exact nvB _) | (intro row h; cases h; done) | (simp [nvRow, nvD, nvP]; done))) ?_
    have hl0 := leb_ten x.log.length (by have := R.ll; omega)
    have hlog := logB_len R h
    have hb14 := hbl 14
    simp only [List.length_map, am, simprocAttr, tys]
    refine ALoopW.intro 78 0 (ι := { i : Nat // i ≤ x.log.length }) (fun i => [(1, .ptr 0 0), (4, .own 1), (49, .d (.sl 7 (x.log.map encE))), (50, int x.log.length), (51, int i.1)]) (fun i => [.box ((encN x).map .d), .own 1 ((headB x 14 ++ leb x.log.length ++ fl putE (x.log.take i.1)).map encB)]) (fun i => x.log.length - i.1) ⟨0, by omega⟩ [] [0, 3] ?_ (fun ⟨i, hi⟩ => ?_)
    · refine ⟨rfl, rfl, by simp, (fun i hi => absurd hi (Nat.not_lt_zero _)), ⟨.inr rfl, .inr rfl, .inr rfl, .inr rfl, .inr rfl, trivial⟩, ⟨.inr ⟨by decide, ?_⟩, .inr ⟨by decide, ?_⟩, trivial⟩, rfl, by decide, rfl, (by first | rfl | simp [scRow, tkC_scs])⟩
      · rfl
      · simp only [List.take_zero, fl_nil, List.append_nil]; rfl
    simp only
    rcases Nat.lt_or_ge i x.log.length with hlt | hge
    · have hb : x.log[i]? = some x.log[i] := List.getElem?_eq_getElem hlt
      have hltI : ((i : Int) < x.log.length) := by omega
      have e1 : IntKind.i64.wrap ((i : Int) + 1) = ((i + 1 : Nat) : Int) := by rw [IntWalk.i64_in _ (by have := h.hl; omega)]; simp
      obtain ⟨q1, q2, q3, q4, q5⟩ := R.e x.log[i] (List.getElem_mem hlt)
      have fe := h.he x.log[i] (List.getElem_mem hlt)
      have cP := opPut x.log[i].2.2.1 fe.2.2 q5
      have hpl := putO_len fe.2.2 q5
      have w1 := w64 x.log[i].1 ⟨q1, by omega⟩
      have w2 := w64 x.log[i].2.1 ⟨by omega, q4⟩
      have g1 := lebt x.log[i].1 ⟨q1, by omega⟩
      have g2 := lebt x.log[i].2.1 ⟨by omega, q4⟩
      have hs := logB_succ x i hlt
      have hli := hlog i
      simp only [encO] at cP
      have q := octsPut (headB x 14 ++ leb x.log.length ++ fl putE (x.log.take i)) x.log[i].1.toNat (by simp only [List.length_append]; omega) (by omega)
      have qq := octsPut (headB x 14 ++ leb x.log.length ++ fl putE (x.log.take i) ++ leb x.log[i].1.toNat) x.log[i].2.1.toNat (by simp only [List.length_append]; omega) (by omega)
      have eb : headB x 14 ++ leb x.log.length ++ fl putE (x.log.take i) ++ leb x.log[i].1.toNat ++ leb x.log[i].2.1.toNat ++ putO x.log[i].2.2.1 = headB x 14 ++ leb x.log.length ++ fl putE (x.log.take (i + 1)) := by
        rw [← hs, putE]; simp
      simp only [int, encN, encE, hb, hltI, Int.natCast_nonneg, Int.toNat_natCast, List.map_cons, List.map_nil, am, simprocAttr, tys]
      refine ACall.of (cP) [] [] rfl (by simp) (by simp) (by simp) (by repeat' (first | exact trivial | exact .inl rfl | exact .inr rfl | exact .inr ⟨rfl, rfl, rfl, by simp; done⟩ | exact .inr ⟨rfl, by simp; done⟩ | exact .inr ⟨rfl, rfl, by simp; done⟩ | apply And.intro)) (by repeat' (first | exact trivial | rfl | exact (tkC_ren.1 _ _).symm | (simp; done) | apply And.intro)) (by first | exact .inl rfl | (refine .inr ⟨trivial, ?_⟩; first | (intro row h; rcases List.mem_singleton.1 h with rfl; exact nvB _) | (intro row h; cases h; done) | (simp; done)) | (refine .inr ⟨by simp [nvP, nvP.nvPs, nvD, nilS, errno], ?_⟩; first | (intro row h; rcases List.mem_singleton.1 h with rfl; exact nvB _) | (intro row h; cases h; done) | (simp [nvRow, nvD, nvP]; done))) ?_
      simp only [errno, w1, am, simprocAttr, tys]
      refine ACallD.of (q) (by kernel_rfl) [] [1] rfl (by simp) (by simp) (by simp) (by simp) (by repeat' (first | exact trivial | exact .inl rfl | exact .inr rfl | exact .inr ⟨rfl, rfl, rfl, by simp; done⟩ | exact .inr ⟨rfl, by simp; done⟩ | exact .inr ⟨rfl, rfl, by simp; done⟩ | apply And.intro)) (by repeat' (first | exact trivial | rfl | exact (tkC_ren.1 _ _).symm | (simp; done) | apply And.intro)) (by first | exact .inl rfl | (refine .inr ⟨trivial, ?_⟩; first | (intro row h; rcases List.mem_singleton.1 h with rfl; exact nvB _) | (intro row h; cases h; done) | (simp; done)) | (refine .inr ⟨by simp [nvP, nvP.nvPs, nvD, nilS, errno], ?_⟩; first | (intro row h; rcases List.mem_singleton.1 h with rfl; exact nvB _) | (intro row h; cases h; done) | (simp [nvRow, nvD, nvP]; done))) rfl rfl rfl rfl ?_
      simp only [w2, am, simprocAttr, tys]
      refine ACallD.of (qq) (by kernel_rfl) [] [260] rfl (by simp) (by simp) (by simp) (by simp) (by repeat' (first | exact trivial | exact .inl rfl | exact .inr rfl | exact .inr ⟨rfl, rfl, rfl, by simp; done⟩ | exact .inr ⟨rfl, by simp; done⟩ | exact .inr ⟨rfl, rfl, by simp; done⟩ | apply And.intro)) (by repeat' (first | exact trivial | rfl | exact (tkC_ren.1 _ _).symm | (simp; done) | apply And.intro)) (by first | exact .inl rfl | (refine .inr ⟨trivial, ?_⟩; first | (intro row h; rcases List.mem_singleton.1 h with rfl; exact nvB _) | (intro row h; cases h; done) | (simp; done)) | (refine .inr ⟨by simp [nvP, nvP.nvPs, nvD, nilS, errno], ?_⟩; first | (intro row h; rcases List.mem_singleton.1 h with rfl; exact nvB _) | (intro row h; cases h; done) | (simp [nvRow, nvD, nvP]; done))) rfl rfl rfl rfl ?_
      simp only [← List.map_append, List.length_map, eb, e1, am, simprocAttr, tys]
      refine ⟨by (try simp only [List.length_append]); omega, by kernel_rfl, ⟨i + 1, by omega⟩, [], [0, 644], ⟨rfl, rfl, by simp, (fun i hi => absurd hi (Nat.not_lt_zero _)), ⟨.inr rfl, .inr rfl, .inr rfl, .inr rfl, .inr rfl, trivial⟩, ⟨.inr ⟨by decide, ?_⟩, .inr ⟨by decide, ?_⟩, trivial⟩, rfl, by decide, rfl, (by first | rfl | simp [scRow, tkC_scs])⟩, by show x.log.length - (i + 1) < x.log.length - i; omega⟩
      · rfl
      · rfl
    · have hltI : ¬ ((i : Int) < x.log.length) := by omega
      have hli := hlog i
      have eb : headB x 14 ++ leb x.log.length ++ fl putE (x.log.take i) = bodyN x := by rw [List.take_of_length_le hge]; rfl
      have ebl : (bodyN x).length ≤ 1000000 := by rw [← eb]; simp only [List.length_append]; omega
      simp only [int, encN, hltI, eb, List.map_cons, List.map_nil, am, simprocAttr, tys]
      refine ACall.of (sealPut (bodyN x) (by omega)) [] [1] rfl (by simp) (by simp) (by simp) (by repeat' (first | exact trivial | exact .inl rfl | exact .inr rfl | exact .inr ⟨rfl, rfl, rfl, by simp; done⟩ | exact .inr ⟨rfl, by simp; done⟩ | exact .inr ⟨rfl, rfl, by simp; done⟩ | apply And.intro)) (by repeat' (first | exact trivial | rfl | exact (tkC_ren.1 _ _).symm | (simp; done) | apply And.intro)) (by first | exact .inl rfl | (refine .inr ⟨trivial, ?_⟩; first | (intro row h; rcases List.mem_singleton.1 h with rfl; exact nvB _) | (intro row h; cases h; done) | (simp; done)) | (refine .inr ⟨by simp [nvP, nvP.nvPs, nvD, nilS, errno], ?_⟩; first | (intro row h; rcases List.mem_singleton.1 h with rfl; exact nvB _) | (intro row h; cases h; done) | (simp [nvRow, nvD, nvP]; done))) ?_
      simp only [errno, FinR, evRes, evRVs, evRV, am, simprocAttr, tys]
      exact ⟨_, [], [2], rfl, ⟨rfl, rfl, by simp, (fun i hi => absurd hi (Nat.not_lt_zero _)), trivial, ⟨.inr ⟨by decide, rfl⟩, trivial⟩, rfl, by decide, rfl, (by first | rfl | simp [scRow, tkC_scs])⟩, rfl, rfl⟩
end Go.Proofs.Ytflpphgccjlkjaa
