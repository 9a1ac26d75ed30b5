/- Proved here: what the functions of the program compute. No condition. -/
import Derived.Test.YtflpphgccjlkjaaG8
import Derived.Test.YtflpphgccjlkjaaG6
import Derived.Test.YtflpphgccjlkjaaG3
set_option linter.all false
set_option linter.unusedSimpArgs false
set_option linter.unusedVariables false
set_option linter.unusedSimpArgs false
set_option linter.unusedVariables false
namespace Go.Proofs.Ytflpphgccjlkjaa
open Go Go.AM

theorem refNPutN (x : NT) (h : FitN x) (hr : rightN x = false) : AFun Try.prog 14 [.d (.agg (encN x))] [] (.tup [nilS, errno 1]) [] := by
  refine AFun.of_walk hP Try.func14 rfl rfl rfl (by simp) rfl ?_
  have c := refNRight x h
  rw [hr] at c
  simp only [encN] at c
  simp only [Try.f14, encN, am, simprocAttr, tys]
  refine ACall.of (c) [] [] rfl (by simp) (by simp) (by simp) (by repeat' (first | exact trivial | exact .inl rfl | exact .inr rfl | exact .inr ⟨rfl, rfl, rfl, by simp; done⟩ | exact .inr ⟨rfl, by simp; done⟩ | exact .inr ⟨rfl, rfl, by simp; done⟩ | apply And.intro)) (by repeat' (first | exact trivial | rfl | exact (tkC_ren.1 _ _).symm | (simp; done) | apply And.intro)) (by first | exact .inl rfl | (refine .inr ⟨trivial, ?_⟩; first | (intro row h; rcases List.mem_singleton.1 h with rfl; exact nvB _) | (intro row h; cases h; done) | (simp; done)) | (refine .inr ⟨by simp [nvP, nvP.nvPs, nvD, nilS, errno], ?_⟩; first | (intro row h; rcases List.mem_singleton.1 h with rfl; exact nvB _) | (intro row h; cases h; done) | (simp [nvRow, nvD, nvP]; done))) ?_
  simp only [bool, nilS, errno, FinR, evRes, evRVs, evRV, am, simprocAttr, tys]
  exact ⟨_, [], [], rfl, Ent.plain rfl rfl rfl trivial rfl, rfl, rfl⟩

set_option maxRecDepth 8000 in
set_option maxHeartbeats 4000000 in
theorem refNPut (x : NT) (h : FitN x) (hr : rightN x = true) : AFun Try.prog 14 [.d (.agg (encN x))] [] (.tup [.own 0, errno 0]) [.own 1 ((sealed (bodyN x)).map encB)] := by
  refine AFun.of_walk hP Try.func14 rfl rfl rfl (by simp) rfl ?_
  have c := refNRight x h
  have R := rightN_of hr
  rw [hr] at c
  simp only [encN] at c
  have hbl := headB_len R
  have v0 : IntKind.i64.wrap 1 = 1 := by decide
  have v1 : IntKind.i64.wrap 2 = 2 := by decide
  have v2 : IntKind.i64.wrap 3 = 3 := by decide
  have v3 : IntKind.i64.wrap 4 = 4 := by decide
  have v4 : IntKind.i64.wrap 5 = 5 := by decide
  have v5 : IntKind.i64.wrap 6 = 6 := by decide
  have v6 : IntKind.i64.wrap 7 = 7 := by decide
  simp only [Try.f14, encN, am, simprocAttr, tys]
  refine ACall.of (c) [] [] rfl (by simp) (by simp) (by simp) (by repeat' (first | exact trivial | exact .inl rfl | exact .inr rfl | exact .inr ⟨rfl, rfl, rfl, by simp; done⟩ | exact .inr ⟨rfl, by simp; done⟩ | exact .inr ⟨rfl, rfl, by simp; done⟩ | apply And.intro)) (by repeat' (first | exact trivial | rfl | exact (tkC_ren.1 _ _).symm | (simp; done) | apply And.intro)) (by first | exact .inl rfl | (refine .inr ⟨trivial, ?_⟩; first | (intro row h; rcases List.mem_singleton.1 h with rfl; exact nvB _) | (intro row h; cases h; done) | (simp; done)) | (refine .inr ⟨by simp [nvP, nvP.nvPs, nvD, nilS, errno], ?_⟩; first | (intro row h; rcases List.mem_singleton.1 h with rfl; exact nvB _) | (intro row h; cases h; done) | (simp [nvRow, nvD, nvP]; done))) ?_
  simp only [bool, am, simprocAttr, tys]
  refine ALoopW.intro 107 0 (ι := { i : Nat // i ≤ 6 }) (fun i => [(1, .ptr 0 0), (4, .own 1), (5, .own 2), (6, int i.1)]) (fun i => [.box ((encN x).map .d), .own 1 ((headB x i.1).map encB), .own 1 ([x.f, x.t, x.v, x.n, x.i, x.s].map encZ)]) (fun i => 6 - i.1) ⟨0, by omega⟩ [] [0, 1, 2] ?_ (fun ⟨i, hi⟩ => ?_)
  · exact ⟨rfl, rfl, by simp, (fun i hi => absurd hi (Nat.not_lt_zero _)), ⟨.inr rfl, .inr rfl, .inr rfl, .inr rfl, trivial⟩, ⟨.inr ⟨by decide, rfl⟩, .inr ⟨by decide, rfl⟩, .inr ⟨by decide, rfl⟩, trivial⟩, rfl, by decide, rfl, (by first | rfl | simp [scRow, tkC_scs])⟩
  simp only
  rcases (by omega : i = 0 ∨ i = 1 ∨ i = 2 ∨ i = 3 ∨ i = 4 ∨ i = 5 ∨ i = 6) with rfl | rfl | rfl | rfl | rfl | rfl | rfl
  · have hb := headB_succ x 0 _ rfl
    simp only [int, encN, encZ, Int.cast_ofNat_Int, List.map_cons, List.map_nil, (w64 x.f ⟨R.f.1, by have := R.f.2; omega⟩), am, simprocAttr, tys]
    refine ACall.of (refPut (headB x 0) x.f.toNat (by have := hbl 0; omega) (by have := R.f.2; omega)) [] [1] rfl (by simp) (by simp) (by simp) (by repeat' (first | exact trivial | exact .inl rfl | exact .inr rfl | exact .inr ⟨rfl, rfl, rfl, by simp; done⟩ | exact .inr ⟨rfl, by simp; done⟩ | exact .inr ⟨rfl, rfl, by simp; done⟩ | apply And.intro)) (by repeat' (first | exact trivial | rfl | exact (tkC_ren.1 _ _).symm | (simp; done) | apply And.intro)) (by first | exact .inl rfl | (refine .inr ⟨trivial, ?_⟩; first | (intro row h; rcases List.mem_singleton.1 h with rfl; exact nvB _) | (intro row h; cases h; done) | (simp; done)) | (refine .inr ⟨by simp [nvP, nvP.nvPs, nvD, nilS, errno], ?_⟩; first | (intro row h; rcases List.mem_singleton.1 h with rfl; exact nvB _) | (intro row h; cases h; done) | (simp [nvRow, nvD, nvP]; done))) ?_
    simp only [hb, v0, am, simprocAttr, tys]
    exact ⟨⟨1, by omega⟩, [], [0, 3, 2], ⟨rfl, rfl, by simp, (fun i hi => absurd hi (Nat.not_lt_zero _)), ⟨.inr rfl, .inr rfl, .inr rfl, .inr rfl, trivial⟩, ⟨.inr ⟨by decide, rfl⟩, .inr ⟨by decide, rfl⟩, .inr ⟨by decide, rfl⟩, trivial⟩, rfl, by decide, rfl, (by first | rfl | simp [scRow, tkC_scs])⟩, by show 6 - 1 < 6 - 0; decide⟩
  · have hb := headB_succ x 1 _ rfl
    simp only [int, encN, encZ, Int.cast_ofNat_Int, List.map_cons, List.map_nil, (w64 x.t ⟨R.t.1, by have := R.t.2; omega⟩), am, simprocAttr, tys]
    refine ACall.of (refPut (headB x 1) x.t.toNat (by have := hbl 1; omega) (by have := R.t.2; omega)) [] [1] rfl (by simp) (by simp) (by simp) (by repeat' (first | exact trivial | exact .inl rfl | exact .inr rfl | exact .inr ⟨rfl, rfl, rfl, by simp; done⟩ | exact .inr ⟨rfl, by simp; done⟩ | exact .inr ⟨rfl, rfl, by simp; done⟩ | apply And.intro)) (by repeat' (first | exact trivial | rfl | exact (tkC_ren.1 _ _).symm | (simp; done) | apply And.intro)) (by first | exact .inl rfl | (refine .inr ⟨trivial, ?_⟩; first | (intro row h; rcases List.mem_singleton.1 h with rfl; exact nvB _) | (intro row h; cases h; done) | (simp; done)) | (refine .inr ⟨by simp [nvP, nvP.nvPs, nvD, nilS, errno], ?_⟩; first | (intro row h; rcases List.mem_singleton.1 h with rfl; exact nvB _) | (intro row h; cases h; done) | (simp [nvRow, nvD, nvP]; done))) ?_
    simp only [hb, v1, am, simprocAttr, tys]
    exact ⟨⟨2, by omega⟩, [], [0, 3, 2], ⟨rfl, rfl, by simp, (fun i hi => absurd hi (Nat.not_lt_zero _)), ⟨.inr rfl, .inr rfl, .inr rfl, .inr rfl, trivial⟩, ⟨.inr ⟨by decide, rfl⟩, .inr ⟨by decide, rfl⟩, .inr ⟨by decide, rfl⟩, trivial⟩, rfl, by decide, rfl, (by first | rfl | simp [scRow, tkC_scs])⟩, by show 6 - 2 < 6 - 1; decide⟩
  · have hb := headB_succ x 2 _ rfl
    simp only [int, encN, encZ, Int.cast_ofNat_Int, List.map_cons, List.map_nil, (w64 x.v ⟨R.v.1, by have := R.v.2; omega⟩), am, simprocAttr, tys]
    refine ACall.of (refPut (headB x 2) x.v.toNat (by have := hbl 2; omega) (by have := R.v.2; omega)) [] [1] rfl (by simp) (by simp) (by simp) (by repeat' (first | exact trivial | exact .inl rfl | exact .inr rfl | exact .inr ⟨rfl, rfl, rfl, by simp; done⟩ | exact .inr ⟨rfl, by simp; done⟩ | exact .inr ⟨rfl, rfl, by simp; done⟩ | apply And.intro)) (by repeat' (first | exact trivial | rfl | exact (tkC_ren.1 _ _).symm | (simp; done) | apply And.intro)) (by first | exact .inl rfl | (refine .inr ⟨trivial, ?_⟩; first | (intro row h; rcases List.mem_singleton.1 h with rfl; exact nvB _) | (intro row h; cases h; done) | (simp; done)) | (refine .inr ⟨by simp [nvP, nvP.nvPs, nvD, nilS, errno], ?_⟩; first | (intro row h; rcases List.mem_singleton.1 h with rfl; exact nvB _) | (intro row h; cases h; done) | (simp [nvRow, nvD, nvP]; done))) ?_
    simp only [hb, v2, am, simprocAttr, tys]
    exact ⟨⟨3, by omega⟩, [], [0, 3, 2], ⟨rfl, rfl, by simp, (fun i hi => absurd hi (Nat.not_lt_zero _)), ⟨.inr rfl, .inr rfl, .inr rfl, .inr rfl, trivial⟩, ⟨.inr ⟨by decide, rfl⟩, .inr ⟨by decide, rfl⟩, .inr ⟨by decide, rfl⟩, trivial⟩, rfl, by decide, rfl, (by first | rfl | simp [scRow, tkC_scs])⟩, by show 6 - 3 < 6 - 2; decide⟩
  · have hb := headB_succ x 3 _ rfl
    simp only [int, encN, encZ, Int.cast_ofNat_Int, List.map_cons, List.map_nil, (w64 x.n ⟨R.n.1, by have := R.n.2; omega⟩), am, simprocAttr, tys]
    refine ACall.of (refPut (headB x 3) x.n.toNat (by have := hbl 3; omega) (by have := R.n.2; omega)) [] [1] rfl (by simp) (by simp) (by simp) (by repeat' (first | exact trivial | exact .inl rfl | exact .inr rfl | exact .inr ⟨rfl, rfl, rfl, by simp; done⟩ | exact .inr ⟨rfl, by simp; done⟩ | exact .inr ⟨rfl, rfl, by simp; done⟩ | apply And.intro)) (by repeat' (first | exact trivial | rfl | exact (tkC_ren.1 _ _).symm | (simp; done) | apply And.intro)) (by first | exact .inl rfl | (refine .inr ⟨trivial, ?_⟩; first | (intro row h; rcases List.mem_singleton.1 h with rfl; exact nvB _) | (intro row h; cases h; done) | (simp; done)) | (refine .inr ⟨by simp [nvP, nvP.nvPs, nvD, nilS, errno], ?_⟩; first | (intro row h; rcases List.mem_singleton.1 h with rfl; exact nvB _) | (intro row h; cases h; done) | (simp [nvRow, nvD, nvP]; done))) ?_
    simp only [hb, v3, am, simprocAttr, tys]
    exact ⟨⟨4, by omega⟩, [], [0, 3, 2], ⟨rfl, rfl, by simp, (fun i hi => absurd hi (Nat.not_lt_zero _)), ⟨.inr rfl, .inr rfl, .inr rfl, .inr rfl, trivial⟩, ⟨.inr ⟨by decide, rfl⟩, .inr ⟨by decide, rfl⟩, .inr ⟨by decide, rfl⟩, trivial⟩, rfl, by decide, rfl, (by first | rfl | simp [scRow, tkC_scs])⟩, by show 6 - 4 < 6 - 3; decide⟩
  · have hb := headB_succ x 4 _ rfl
    simp only [int, encN, encZ, Int.cast_ofNat_Int, List.map_cons, List.map_nil, (w64 x.i ⟨R.i.1, by have := R.i.2; omega⟩), am, simprocAttr, tys]
    refine ACall.of (refPut (headB x 4) x.i.toNat (by have := hbl 4; omega) (by have := R.i.2; omega)) [] [1] rfl (by simp) (by simp) (by simp) (by repeat' (first | exact trivial | exact .inl rfl | exact .inr rfl | exact .inr ⟨rfl, rfl, rfl, by simp; done⟩ | exact .inr ⟨rfl, by simp; done⟩ | exact .inr ⟨rfl, rfl, by simp; done⟩ | apply And.intro)) (by repeat' (first | exact trivial | rfl | exact (tkC_ren.1 _ _).symm | (simp; done) | apply And.intro)) (by first | exact .inl rfl | (refine .inr ⟨trivial, ?_⟩; first | (intro row h; rcases List.mem_singleton.1 h with rfl; exact nvB _) | (intro row h; cases h; done) | (simp; done)) | (refine .inr ⟨by simp [nvP, nvP.nvPs, nvD, nilS, errno], ?_⟩; first | (intro row h; rcases List.mem_singleton.1 h with rfl; exact nvB _) | (intro row h; cases h; done) | (simp [nvRow, nvD, nvP]; done))) ?_
    simp only [hb, v4, am, simprocAttr, tys]
    exact ⟨⟨5, by omega⟩, [], [0, 3, 2], ⟨rfl, rfl, by simp, (fun i hi => absurd hi (Nat.not_lt_zero _)), ⟨.inr rfl, .inr rfl, .inr rfl, .inr rfl, trivial⟩, ⟨.inr ⟨by decide, rfl⟩, .inr ⟨by decide, rfl⟩, .inr ⟨by decide, rfl⟩, trivial⟩, rfl, by decide, rfl, (by first | rfl | simp [scRow, tkC_scs])⟩, by show 6 - 5 < 6 - 4; decide⟩
  · have hb := headB_succ x 5 _ rfl
    simp only [int, encN, encZ, Int.cast_ofNat_Int, List.map_cons, List.map_nil, (w64 x.s ⟨R.s.1, by have := R.s.2; omega⟩), am, simprocAttr, tys]
    refine ACall.of (refPut (headB x 5) x.s.toNat (by have := hbl 5; omega) (by have := R.s.2; omega)) [] [1] rfl (by simp) (by simp) (by simp) (by repeat' (first | exact trivial | exact .inl rfl | exact .inr rfl | exact .inr ⟨rfl, rfl, rfl, by simp; done⟩ | exact .inr ⟨rfl, by simp; done⟩ | exact .inr ⟨rfl, rfl, by simp; done⟩ | apply And.intro)) (by repeat' (first | exact trivial | rfl | exact (tkC_ren.1 _ _).symm | (simp; done) | apply And.intro)) (by first | exact .inl rfl | (refine .inr ⟨trivial, ?_⟩; first | (intro row h; rcases List.mem_singleton.1 h with rfl; exact nvB _) | (intro row h; cases h; done) | (simp; done)) | (refine .inr ⟨by simp [nvP, nvP.nvPs, nvD, nilS, errno], ?_⟩; first | (intro row h; rcases List.mem_singleton.1 h with rfl; exact nvB _) | (intro row h; cases h; done) | (simp [nvRow, nvD, nvP]; done))) ?_
    simp only [hb, v5, am, simprocAttr, tys]
    exact ⟨⟨6, by omega⟩, [], [0, 3, 2], ⟨rfl, rfl, by simp, (fun i hi => absurd hi (Nat.not_lt_zero _)), ⟨.inr rfl, .inr rfl, .inr rfl, .inr rfl, trivial⟩, ⟨.inr ⟨by decide, rfl⟩, .inr ⟨by decide, rfl⟩, .inr ⟨by decide, rfl⟩, trivial⟩, rfl, by decide, rfl, (by first | rfl | simp [scRow, tkC_scs])⟩, by show 6 - 6 < 6 - 5; decide⟩
  · have hb := headB_succ x 6 _ rfl
    have h6 := hbl 6
    rcases hld : x.ld with _ | _
    case' false =>
      rw [hld] at hb
      have eb : (headB x 6).map encB ++ [[DV.lit (.int .u8 0)]] = (headB x 7).map encB := by rw [← hb, List.map_append]; rfl
      simp only [int, encN, encZ, hld, Int.cast_ofNat_Int, List.map_cons, List.map_nil, eb, List.length_map, am, simprocAttr, tys]
      refine ⟨by omega, ?_⟩
    case' true =>
      rw [hld] at hb
      have eb : (headB x 6).map encB ++ [[DV.lit (.int .u8 1)]] = (headB x 7).map encB := by rw [← hb, List.map_append]; rfl
      simp only [int, encN, encZ, hld, Int.cast_ofNat_Int, List.map_cons, List.map_nil, eb, List.length_map, am, simprocAttr, tys]
      refine ⟨by omega, ?_⟩
    all_goals
      refine ALoopW.intro 107 0 (ι := { i : Nat // i ≤ 7 }) (fun i => [(1, .ptr 0 0), (4, .own 1), (7, int i.1)]) (fun i => [.box ((encN x).map .d), .own 1 ((headB x (7 + i.1)).map encB)]) (fun i => 7 - i.1) ⟨0, by omega⟩ [] [0, 4] ?_ (fun ⟨i, hi⟩ => ?_)
      · refine ⟨rfl, rfl, by simp, (fun i hi => absurd hi (Nat.not_lt_zero _)), ⟨.inr rfl, .inr rfl, .inr rfl, trivial⟩, ⟨.inr ⟨by decide, ?_⟩, .inr ⟨by decide, ?_⟩, trivial⟩, rfl, by decide, rfl, (by first | rfl | simp [scRow, tkC_scs])⟩
        · simp only [encN, hld]; rfl
        · rfl
      simp only
      rcases (by omega : i = 0 ∨ i = 1 ∨ i = 2 ∨ i = 3 ∨ i = 4 ∨ i = 5 ∨ i = 6 ∨ i = 7) with rfl | rfl | rfl | rfl | rfl | rfl | rfl | rfl
      · have hb := headB_succ x 7 _ rfl
        simp only [int, encN, Int.cast_ofNat_Int, List.map_cons, List.map_nil, (w64 x.l0 ⟨R.l0.1, by have := R.l0.2; omega⟩), am, simprocAttr, tys]
        refine ACall.of (refPut (headB x 7) x.l0.toNat (by have := hbl 7; omega) (by have := R.l0.2; omega)) [] [1] rfl (by simp) (by simp) (by simp) (by repeat' (first | exact trivial | exact .inl rfl | exact .inr rfl | exact .inr ⟨rfl, rfl, rfl, by simp; done⟩ | exact .inr ⟨rfl, by simp; done⟩ | exact .inr ⟨rfl, rfl, by simp; done⟩ | apply And.intro)) (by repeat' (first | exact trivial | rfl | exact (tkC_ren.1 _ _).symm | (simp; done) | apply And.intro)) (by first | exact .inl rfl | (refine .inr ⟨trivial, ?_⟩; first | (intro row h; rcases List.mem_singleton.1 h with rfl; exact nvB _) | (intro row h; cases h; done) | (simp; done)) | (refine .inr ⟨by simp [nvP, nvP.nvPs, nvD, nilS, errno], ?_⟩; first | (intro row h; rcases List.mem_singleton.1 h with rfl; exact nvB _) | (intro row h; cases h; done) | (simp [nvRow, nvD, nvP]; done))) ?_
        simp only [hb, v0, am, simprocAttr, tys]
        exact ⟨⟨1, by omega⟩, [], [0, 2], ⟨rfl, rfl, by simp, (fun i hi => absurd hi (Nat.not_lt_zero _)), ⟨.inr rfl, .inr rfl, .inr rfl, trivial⟩, ⟨.inr ⟨by decide, rfl⟩, .inr ⟨by decide, rfl⟩, trivial⟩, rfl, by decide, rfl, (by first | rfl | simp [scRow, tkC_scs])⟩, by show 7 - 1 < 7 - 0; decide⟩
      · have hb := headB_succ x 8 _ rfl
        simp only [int, encN, Int.cast_ofNat_Int, List.map_cons, List.map_nil, (w64 x.l1 ⟨R.l1.1, by have := R.l1.2; omega⟩), am, simprocAttr, tys]
        refine ACall.of (refPut (headB x 8) x.l1.toNat (by have := hbl 8; omega) (by have := R.l1.2; omega)) [] [1] rfl (by simp) (by simp) (by simp) (by repeat' (first | exact trivial | exact .inl rfl | exact .inr rfl | exact .inr ⟨rfl, rfl, rfl, by simp; done⟩ | exact .inr ⟨rfl, by simp; done⟩ | exact .inr ⟨rfl, rfl, by simp; done⟩ | apply And.intro)) (by repeat' (first | exact trivial | rfl | exact (tkC_ren.1 _ _).symm | (simp; done) | apply And.intro)) (by first | exact .inl rfl | (refine .inr ⟨trivial, ?_⟩; first | (intro row h; rcases List.mem_singleton.1 h with rfl; exact nvB _) | (intro row h; cases h; done) | (simp; done)) | (refine .inr ⟨by simp [nvP, nvP.nvPs, nvD, nilS, errno], ?_⟩; first | (intro row h; rcases List.mem_singleton.1 h with rfl; exact nvB _) | (intro row h; cases h; done) | (simp [nvRow, nvD, nvP]; done))) ?_
        simp only [hb, v1, am, simprocAttr, tys]
        exact ⟨⟨2, by omega⟩, [], [0, 2], ⟨rfl, rfl, by simp, (fun i hi => absurd hi (Nat.not_lt_zero _)), ⟨.inr rfl, .inr rfl, .inr rfl, trivial⟩, ⟨.inr ⟨by decide, rfl⟩, .inr ⟨by decide, rfl⟩, trivial⟩, rfl, by decide, rfl, (by first | rfl | simp [scRow, tkC_scs])⟩, by show 7 - 2 < 7 - 1; decide⟩
      · have hb := headB_succ x 9 _ rfl
        simp only [int, encN, Int.cast_ofNat_Int, List.map_cons, List.map_nil, (w64 x.l2 ⟨R.l2.1, by have := R.l2.2; omega⟩), am, simprocAttr, tys]
        refine ACall.of (refPut (headB x 9) x.l2.toNat (by have := hbl 9; omega) (by have := R.l2.2; omega)) [] [1] rfl (by simp) (by simp) (by simp) (by repeat' (first | exact trivial | exact .inl rfl | exact .inr rfl | exact .inr ⟨rfl, rfl, rfl, by simp; done⟩ | exact .inr ⟨rfl, by simp; done⟩ | exact .inr ⟨rfl, rfl, by simp; done⟩ | apply And.intro)) (by repeat' (first | exact trivial | rfl | exact (tkC_ren.1 _ _).symm | (simp; done) | apply And.intro)) (by first | exact .inl rfl | (refine .inr ⟨trivial, ?_⟩; first | (intro row h; rcases List.mem_singleton.1 h with rfl; exact nvB _) | (intro row h; cases h; done) | (simp; done)) | (refine .inr ⟨by simp [nvP, nvP.nvPs, nvD, nilS, errno], ?_⟩; first | (intro row h; rcases List.mem_singleton.1 h with rfl; exact nvB _) | (intro row h; cases h; done) | (simp [nvRow, nvD, nvP]; done))) ?_
        simp only [hb, v2, am, simprocAttr, tys]
        exact ⟨⟨3, by omega⟩, [], [0, 2], ⟨rfl, rfl, by simp, (fun i hi => absurd hi (Nat.not_lt_zero _)), ⟨.inr rfl, .inr rfl, .inr rfl, trivial⟩, ⟨.inr ⟨by decide, rfl⟩, .inr ⟨by decide, rfl⟩, trivial⟩, rfl, by decide, rfl, (by first | rfl | simp [scRow, tkC_scs])⟩, by show 7 - 3 < 7 - 2; decide⟩
      · have hb := headB_succ x 10 _ rfl
        simp only [int, encN, Int.cast_ofNat_Int, List.map_cons, List.map_nil, (w64 x.l3 ⟨R.l3.1, by have := R.l3.2; omega⟩), am, simprocAttr, tys]
        refine ACall.of (refPut (headB x 10) x.l3.toNat (by have := hbl 10; omega) (by have := R.l3.2; omega)) [] [1] rfl (by simp) (by simp) (by simp) (by repeat' (first | exact trivial | exact .inl rfl | exact .inr rfl | exact .inr ⟨rfl, rfl, rfl, by simp; done⟩ | exact .inr ⟨rfl, by simp; done⟩ | exact .inr ⟨rfl, rfl, by simp; done⟩ | apply And.intro)) (by repeat' (first | exact trivial | rfl | exact (tkC_ren.1 _ _).symm | (simp; done) | apply And.intro)) (by first | exact .inl rfl | (refine .inr ⟨trivial, ?_⟩; first | (intro row h; rcases List.mem_singleton.1 h with rfl; exact nvB _) | (intro row h; cases h; done) | (simp; done)) | (refine .inr ⟨by simp [nvP, nvP.nvPs, nvD, nilS, errno], ?_⟩; first | (intro row h; rcases List.mem_singleton.1 h with rfl; exact nvB _) | (intro row h; cases h; done) | (simp [nvRow, nvD, nvP]; done))) ?_
        simp only [hb, v3, am, simprocAttr, tys]
        exact ⟨⟨4, by omega⟩, [], [0, 2], ⟨rfl, rfl, by simp, (fun i hi => absurd hi (Nat.not_lt_zero _)), ⟨.inr rfl, .inr rfl, .inr rfl, trivial⟩, ⟨.inr ⟨by decide, rfl⟩, .inr ⟨by decide, rfl⟩, trivial⟩, rfl, by decide, rfl, (by first | rfl | simp [scRow, tkC_scs])⟩, by show 7 - 4 < 7 - 3; decide⟩
      · have hb := headB_succ x 11 _ rfl
        simp only [int, encN, Int.cast_ofNat_Int, List.map_cons, List.map_nil, (w64 x.l4 ⟨R.l4.1, by have := R.l4.2; omega⟩), am, simprocAttr, tys]
        refine ACall.of (refPut (headB x 11) x.l4.toNat (by have := hbl 11; omega) (by have := R.l4.2; omega)) [] [1] rfl (by simp) (by simp) (by simp) (by repeat' (first | exact trivial | exact .inl rfl | exact .inr rfl | exact .inr ⟨rfl, rfl, rfl, by simp; done⟩ | exact .inr ⟨rfl, by simp; done⟩ | exact .inr ⟨rfl, rfl, by simp; done⟩ | apply And.intro)) (by repeat' (first | exact trivial | rfl | exact (tkC_ren.1 _ _).symm | (simp; done) | apply And.intro)) (by first | exact .inl rfl | (refine .inr ⟨trivial, ?_⟩; first | (intro row h; rcases List.mem_singleton.1 h with rfl; exact nvB _) | (intro row h; cases h; done) | (simp; done)) | (refine .inr ⟨by simp [nvP, nvP.nvPs, nvD, nilS, errno], ?_⟩; first | (intro row h; rcases List.mem_singleton.1 h with rfl; exact nvB _) | (intro row h; cases h; done) | (simp [nvRow, nvD, nvP]; done))) ?_
        simp only [hb, v4, am, simprocAttr, tys]
        exact ⟨⟨5, by omega⟩, [], [0, 2], ⟨rfl, rfl, by simp, (fun i hi => absurd hi (Nat.not_lt_zero _)), ⟨.inr rfl, .inr rfl, .inr rfl, trivial⟩, ⟨.inr ⟨by decide, rfl⟩, .inr ⟨by decide, rfl⟩, trivial⟩, rfl, by decide, rfl, (by first | rfl | simp [scRow, tkC_scs])⟩, by show 7 - 5 < 7 - 4; decide⟩
      · have hb := headB_succ x 12 _ rfl
        simp only [int, encN, Int.cast_ofNat_Int, List.map_cons, List.map_nil, (w64 x.l5 ⟨R.l5.1, by have := R.l5.2; omega⟩), am, simprocAttr, tys]
        refine ACall.of (refPut (headB x 12) x.l5.toNat (by have := hbl 12; omega) (by have := R.l5.2; omega)) [] [1] rfl (by simp) (by simp) (by simp) (by repeat' (first | exact trivial | exact .inl rfl | exact .inr rfl | exact .inr ⟨rfl, rfl, rfl, by simp; done⟩ | exact .inr ⟨rfl, by simp; done⟩ | exact .inr ⟨rfl, rfl, by simp; done⟩ | apply And.intro)) (by repeat' (first | exact trivial | rfl | exact (tkC_ren.1 _ _).symm | (simp; done) | apply And.intro)) (by first | exact .inl rfl | (refine .inr ⟨trivial, ?_⟩; first | (intro row h; rcases List.mem_singleton.1 h with rfl; exact nvB _) | (intro row h; cases h; done) | (simp; done)) | (refine .inr ⟨by simp [nvP, nvP.nvPs, nvD, nilS, errno], ?_⟩; first | (intro row h; rcases List.mem_singleton.1 h with rfl; exact nvB _) | (intro row h; cases h; done) | (simp [nvRow, nvD, nvP]; done))) ?_
        simp only [hb, v5, am, simprocAttr, tys]
        exact ⟨⟨6, by omega⟩, [], [0, 2], ⟨rfl, rfl, by simp, (fun i hi => absurd hi (Nat.not_lt_zero _)), ⟨.inr rfl, .inr rfl, .inr rfl, trivial⟩, ⟨.inr ⟨by decide, rfl⟩, .inr ⟨by decide, rfl⟩, trivial⟩, rfl, by decide, rfl, (by first | rfl | simp [scRow, tkC_scs])⟩, by show 7 - 6 < 7 - 5; decide⟩
      · have hb := headB_succ x 13 _ rfl
        simp only [int, encN, Int.cast_ofNat_Int, List.map_cons, List.map_nil, (w64 x.l6 ⟨R.l6.1, by have := R.l6.2; omega⟩), am, simprocAttr, tys]
        refine ACall.of (refPut (headB x 13) x.l6.toNat (by have := hbl 13; omega) (by have := R.l6.2; omega)) [] [1] rfl (by simp) (by simp) (by simp) (by repeat' (first | exact trivial | exact .inl rfl | exact .inr rfl | exact .inr ⟨rfl, rfl, rfl, by simp; done⟩ | exact .inr ⟨rfl, by simp; done⟩ | exact .inr ⟨rfl, rfl, by simp; done⟩ | apply And.intro)) (by repeat' (first | exact trivial | rfl | exact (tkC_ren.1 _ _).symm | (simp; done) | apply And.intro)) (by first | exact .inl rfl | (refine .inr ⟨trivial, ?_⟩; first | (intro row h; rcases List.mem_singleton.1 h with rfl; exact nvB _) | (intro row h; cases h; done) | (simp; done)) | (refine .inr ⟨by simp [nvP, nvP.nvPs, nvD, nilS, errno], ?_⟩; first | (intro row h; rcases List.mem_singleton.1 h with rfl; exact nvB _) | (intro row h; cases h; done) | (simp [nvRow, nvD, nvP]; done))) ?_
        simp only [hb, v6, am, simprocAttr, tys]
        exact ⟨⟨7, by omega⟩, [], [0, 2], ⟨rfl, rfl, by simp, (fun i hi => absurd hi (Nat.not_lt_zero _)), ⟨.inr rfl, .inr rfl, .inr rfl, trivial⟩, ⟨.inr ⟨by decide, rfl⟩, .inr ⟨by decide, rfl⟩, trivial⟩, rfl, by decide, rfl, (by first | rfl | simp [scRow, tkC_scs])⟩, by show 7 - 7 < 7 - 6; decide⟩
      · have w : IntKind.u64.wrap (x.log.length : Int) = ((x.log.length : Nat) : Int) := IntWalk.u64_in _ (by have := R.ll; omega)
        simp only [int, encN, Int.cast_ofNat_Int, List.map_cons, List.map_nil, List.length_map, w, am, simprocAttr, tys]
        refine ACall.of (refPut (headB x 14) x.log.length (by have := hbl 14; omega) (by have := R.ll; omega)) [] [1] rfl (by simp) (by simp) (by simp) (by repeat' (first | exact trivial | exact .inl rfl | exact .inr rfl | exact .inr ⟨rfl, rfl, rfl, by simp; done⟩ | exact .inr ⟨rfl, by simp; done⟩ | exact .inr ⟨rfl, rfl, by simp; done⟩ | apply And.intro)) (by repeat' (first | exact trivial | rfl | exact (tkC_ren.1 _ _).symm | (simp; done) | apply And.intro)) (by first | exact .inl rfl | (refine .inr ⟨trivial, ?_⟩; first | (intro row h; rcases List.mem_singleton.1 h with rfl; exact nvB _) | (intro row h; cases h; done) | (simp; done)) | (refine .inr ⟨by simp [nvP, nvP.nvPs, nvD, nilS, errno], ?_⟩; first | (intro row h; rcases List.mem_singleton.1 h with rfl; exact nvB _) | (intro row h; cases h; done) | (simp [nvRow, nvD, nvP]; done))) ?_
        have hl0 := leb_ten x.log.length (by have := R.ll; omega)
        have hlog := logB_len R h
        have hb14 := hbl 14
        simp only [List.length_map, am, simprocAttr, tys]
        refine ALoopW.intro 107 0 (ι := { i : Nat // i ≤ x.log.length }) (fun i => [(1, .ptr 0 0), (4, .own 1), (8, int i.1)]) (fun i => [.box ((encN x).map .d), .own 1 ((headB x 14 ++ leb x.log.length ++ fl putE (x.log.take i.1)).map encB)]) (fun i => x.log.length - i.1) ⟨0, by omega⟩ [] [0, 2] ?_ (fun ⟨i, hi⟩ => ?_)
        · refine ⟨rfl, rfl, by simp, (fun i hi => absurd hi (Nat.not_lt_zero _)), ⟨.inr rfl, .inr rfl, .inr rfl, trivial⟩, ⟨.inr ⟨by decide, ?_⟩, .inr ⟨by decide, ?_⟩, trivial⟩, rfl, by decide, rfl, (by first | rfl | simp [scRow, tkC_scs])⟩
          · rfl
          · simp only [List.take_zero, fl_nil, List.append_nil]; rfl
        simp only
        rcases Nat.lt_or_ge i x.log.length with hlt | hge
        · have hb : x.log[i]? = some x.log[i] := List.getElem?_eq_getElem hlt
          have hltI : ((i : Int) < x.log.length) := by omega
          have e1 : IntKind.i64.wrap ((i : Int) + 1) = ((i + 1 : Nat) : Int) := by rw [IntWalk.i64_in _ (by have := h.hl; omega)]; simp
          obtain ⟨q1, q2, q3, q4, q5⟩ := R.e x.log[i] (List.getElem_mem hlt)
          have fe := h.he x.log[i] (List.getElem_mem hlt)
          have cP := refOPut x.log[i].2.2.1 fe.2.2 q5
          have hpl := putO_len fe.2.2 q5
          have w1 := w64 x.log[i].1 ⟨q1, by omega⟩
          have w2 := w64 x.log[i].2.1 ⟨by omega, q4⟩
          have g1 := lebt x.log[i].1 ⟨q1, by omega⟩
          have g2 := lebt x.log[i].2.1 ⟨by omega, q4⟩
          have hs := logB_succ x i hlt
          have hli := hlog i
          simp only [encO] at cP
          have q := refPut (headB x 14 ++ leb x.log.length ++ fl putE (x.log.take i)) x.log[i].1.toNat (by simp only [List.length_append]; omega) (by omega)
          have qq := refPut (headB x 14 ++ leb x.log.length ++ fl putE (x.log.take i) ++ leb x.log[i].1.toNat) x.log[i].2.1.toNat (by simp only [List.length_append]; omega) (by omega)
          have eb : headB x 14 ++ leb x.log.length ++ fl putE (x.log.take i) ++ leb x.log[i].1.toNat ++ leb x.log[i].2.1.toNat ++ putO x.log[i].2.2.1 = headB x 14 ++ leb x.log.length ++ fl putE (x.log.take (i + 1)) := by
            rw [← hs, putE]; simp
          simp only [int, encN, encE, hb, hltI, w1, List.length_map, Int.natCast_nonneg, Int.toNat_natCast, List.map_cons, List.map_nil, am, simprocAttr, tys]
          refine ACallD.of (q) (by kernel_rfl) [] [1] rfl (by simp) (by simp) (by simp) (by simp) (by repeat' (first | exact trivial | exact .inl rfl | exact .inr rfl | exact .inr ⟨rfl, rfl, rfl, by simp; done⟩ | exact .inr ⟨rfl, by simp; done⟩ | exact .inr ⟨rfl, rfl, by simp; done⟩ | apply And.intro)) (by repeat' (first | exact trivial | rfl | exact (tkC_ren.1 _ _).symm | (simp; done) | apply And.intro)) (by first | exact .inl rfl | (refine .inr ⟨trivial, ?_⟩; first | (intro row h; rcases List.mem_singleton.1 h with rfl; exact nvB _) | (intro row h; cases h; done) | (simp; done)) | (refine .inr ⟨by simp [nvP, nvP.nvPs, nvD, nilS, errno], ?_⟩; first | (intro row h; rcases List.mem_singleton.1 h with rfl; exact nvB _) | (intro row h; cases h; done) | (simp [nvRow, nvD, nvP]; done))) rfl rfl rfl rfl ?_
          simp only [hb, encE, w2, Int.natCast_nonneg, Int.toNat_natCast, am, simprocAttr, tys]
          refine ACallD.of (qq) (by kernel_rfl) [] [514] rfl (by simp) (by simp) (by simp) (by simp) (by repeat' (first | exact trivial | exact .inl rfl | exact .inr rfl | exact .inr ⟨rfl, rfl, rfl, by simp; done⟩ | exact .inr ⟨rfl, by simp; done⟩ | exact .inr ⟨rfl, rfl, by simp; done⟩ | apply And.intro)) (by repeat' (first | exact trivial | rfl | exact (tkC_ren.1 _ _).symm | (simp; done) | apply And.intro)) (by first | exact .inl rfl | (refine .inr ⟨trivial, ?_⟩; first | (intro row h; rcases List.mem_singleton.1 h with rfl; exact nvB _) | (intro row h; cases h; done) | (simp; done)) | (refine .inr ⟨by simp [nvP, nvP.nvPs, nvD, nilS, errno], ?_⟩; first | (intro row h; rcases List.mem_singleton.1 h with rfl; exact nvB _) | (intro row h; cases h; done) | (simp [nvRow, nvD, nvP]; done))) rfl rfl rfl rfl ?_
          simp only [hb, encE, Int.natCast_nonneg, Int.toNat_natCast, am, simprocAttr, tys]
          refine ⟨by kernel_rfl, ?_⟩
          refine ACall.of (cP) [] [] rfl (by simp) (by simp) (by simp) (by repeat' (first | exact trivial | exact .inl rfl | exact .inr rfl | exact .inr ⟨rfl, rfl, rfl, by simp; done⟩ | exact .inr ⟨rfl, by simp; done⟩ | exact .inr ⟨rfl, rfl, by simp; done⟩ | apply And.intro)) (by repeat' (first | exact trivial | rfl | exact (tkC_ren.1 _ _).symm | (simp; done) | apply And.intro)) (by first | exact .inl rfl | (refine .inr ⟨trivial, ?_⟩; first | (intro row h; rcases List.mem_singleton.1 h with rfl; exact nvB _) | (intro row h; cases h; done) | (simp; done)) | (refine .inr ⟨by simp [nvP, nvP.nvPs, nvD, nilS, errno], ?_⟩; first | (intro row h; rcases List.mem_singleton.1 h with rfl; exact nvB _) | (intro row h; cases h; done) | (simp [nvRow, nvD, nvP]; done))) ?_
          simp only [← List.map_append, List.length_map, eb, e1, am, simprocAttr, tys]
          refine ⟨by (try simp only [List.length_append]); omega, ⟨i + 1, by omega⟩, [], [0, 1155], ⟨rfl, rfl, by simp, (fun i hi => absurd hi (Nat.not_lt_zero _)), ⟨.inr rfl, .inr rfl, .inr rfl, trivial⟩, ⟨.inr ⟨by decide, ?_⟩, .inr ⟨by decide, ?_⟩, trivial⟩, rfl, by decide, rfl, (by first | rfl | simp [scRow, tkC_scs])⟩, by show x.log.length - (i + 1) < x.log.length - i; omega⟩
          · rfl
          · rfl
        · have hltI : ¬ ((i : Int) < x.log.length) := by omega
          have hli := hlog i
          have eb : headB x 14 ++ leb x.log.length ++ fl putE (x.log.take i) = bodyN x := by rw [List.take_of_length_le hge]; rfl
          have ebl : (bodyN x).length ≤ 1000000 := by rw [← eb]; simp only [List.length_append]; omega
          simp only [int, encN, hltI, eb, List.length_map, List.map_cons, List.map_nil, am, simprocAttr, tys]
          refine ACall.of (refSPut (bodyN x) (by omega)) [] [1] rfl (by simp) (by simp) (by simp) (by repeat' (first | exact trivial | exact .inl rfl | exact .inr rfl | exact .inr ⟨rfl, rfl, rfl, by simp; done⟩ | exact .inr ⟨rfl, by simp; done⟩ | exact .inr ⟨rfl, rfl, by simp; done⟩ | apply And.intro)) (by repeat' (first | exact trivial | rfl | exact (tkC_ren.1 _ _).symm | (simp; done) | apply And.intro)) (by first | exact .inl rfl | (refine .inr ⟨trivial, ?_⟩; first | (intro row h; rcases List.mem_singleton.1 h with rfl; exact nvB _) | (intro row h; cases h; done) | (simp; done)) | (refine .inr ⟨by simp [nvP, nvP.nvPs, nvD, nilS, errno], ?_⟩; first | (intro row h; rcases List.mem_singleton.1 h with rfl; exact nvB _) | (intro row h; cases h; done) | (simp [nvRow, nvD, nvP]; done))) ?_
          simp only [errno, FinR, evRes, evRVs, evRV, am, simprocAttr, tys]
          exact ⟨_, [], [2], rfl, ⟨rfl, rfl, by simp, (fun i hi => absurd hi (Nat.not_lt_zero _)), trivial, ⟨.inr ⟨by decide, rfl⟩, trivial⟩, rfl, by decide, rfl, (by first | rfl | simp [scRow, tkC_scs])⟩, rfl, rfl⟩
end Go.Proofs.Ytflpphgccjlkjaa

set_option linter.unusedSimpArgs false
set_option linter.unusedVariables false
namespace Go.Proofs.Ytflpphgccjlkjaa
open Go Go.AM

theorem takeSeal_sealed (x r : List UInt8) (h : x.length < 18446744073709551616) : takeSeal (sealed x ++ r) = some (x, r) := by
  unfold takeSeal sealed
  rw [List.append_assoc, List.append_assoc, takeNum_leb _ _ h]
  have l4 : (be32 (crc (leb x.length ++ x))).length = 4 := rfl
  have e1 : (x ++ (be32 (crc (leb x.length ++ x)) ++ r)).take x.length = x := by simp
  have e2 : ((x ++ (be32 (crc (leb x.length ++ x)) ++ r)).drop x.length).take 4 = be32 (crc (leb x.length ++ x)) := by
    rw [List.drop_left]
    rw [← l4]; simp
  have e3 : (x ++ (be32 (crc (leb x.length ++ x)) ++ r)).drop (x.length + 4) = r := by
    rw [List.drop_length_add_append, ← l4]; simp
  simp only [e1, e2, e3, and_true]
  rw [if_pos (by simp [l4])]

theorem takeSeal_some {b x r : List UInt8} (h : takeSeal b = some (x, r)) : b = sealed x ++ r ∧ x.length < 18446744073709551616 := by
  unfold takeSeal at h
  split at h
  · cases h
  · rename_i n s hk
    obtain ⟨g1, g2⟩ := takeNum_some hk
    split at h
    · rename_i hc
      simp only [Option.some.injEq, Prod.mk.injEq] at h
      obtain ⟨rfl, rfl⟩ := h
      have hx : (s.take n).length = n := by rw [List.length_take]; omega
      refine ⟨?_, by rw [hx]; exact g1⟩
      unfold sealed
      rw [hx, ← hc.2, g2, List.append_assoc, List.append_assoc, List.append_cancel_left_eq]
      rw [Nat.add_comm n 4, ← List.drop_drop, List.drop_drop, Nat.add_comm 4 n, ← List.drop_drop, List.take_append_drop, List.take_append_drop]
    · cases h

theorem takeSeal_cut (x : List UInt8) (k : Nat) (hx : x.length < 18446744073709551616) (hk : k < (sealed x).length) : takeSeal ((sealed x).take k) = none := by
  rcases h : takeSeal ((sealed x).take k) with _ | ⟨y, r⟩
  · rfl
  · exfalso
    obtain ⟨h1, h2⟩ := takeSeal_some h
    have e : sealed x ++ [] = sealed y ++ (r ++ (sealed x).drop k) := by
      rw [← List.append_assoc, ← h1, List.take_append_drop, List.append_nil]
    have g1 := takeSeal_sealed x [] hx
    rw [e, takeSeal_sealed y _ h2] at g1
    simp only [Option.some.injEq, Prod.mk.injEq] at g1
    have := congrArg List.length g1.2
    simp at this
    omega
end Go.Proofs.Ytflpphgccjlkjaa

set_option linter.unusedSimpArgs false
set_option linter.unusedVariables false
namespace Go.Proofs.Ytflpphgccjlkjaa
open Go Go.AM

/-! ## the note that bytes are -/
def numI (u : Nat) : Int := IntKind.i64.wrap u
def takeE (b : List UInt8) : Option (EntT × List UInt8) := match takeNum b with
  | none => none
  | some (c, r1) => match takeNum r1 with
    | none => none
    | some (q, r2) => match takeO r2 with
      | none => none
      | some (o, r3) => some ((numI c, numI q, o, ()), r3)
def tS (r : List UInt8) : Nat → Tk
  | 0 => some r
  | i + 1 => (numT (tS r i)).2
def uS (r : List UInt8) (i : Nat) : Nat := (numT (tS r i)).1
def mkN (k : UInt8) (r : List UInt8) (l : List EntT) : NT := ⟨k, numI (uS r 0), numI (uS r 1), numI (uS r 2), numI (uS r 3), numI (uS r 4), numI (uS r 5), uS r 6 == 1, numI (uS r 7), numI (uS r 8), numI (uS r 9), numI (uS r 10), numI (uS r 11), numI (uS r 12), numI (uS r 13), l⟩
def takeB (k : UInt8) (r : List UInt8) : Option NT :=
  if 1 < uS r 6 then none else if 300 < uS r 14 then none else match tS r 15 with
    | none => none
    | some q => match decN takeE (uS r 14) q with
      | some (l, []) => if rightN (mkN k r l) = true then some (mkN k r l) else none
      | _ => none
def takeN (b : List UInt8) : Option NT := match takeSeal b with
  | some (k :: r, []) => takeB k r
  | _ => none

theorem numI_I64 (u : Nat) : I64 (numI u) := by
  unfold numI I64
  rw [IntKind.wrap_i64]; omega
theorem numI_of (u : Nat) (hu : u < 18446744073709551616) (h : 0 ≤ numI u) : (numI u).toNat = u := by
  unfold numI at *
  rw [IntKind.wrap_i64] at *; omega
theorem numI_nat (n : Int) (h : 0 ≤ n ∧ n ≤ 1099511627776) : numI n.toNat = n := by
  unfold numI
  rw [IntKind.wrap_i64]; omega
theorem takeE_some {b : List UInt8} {e : EntT} {r : List UInt8} (h : takeE b = some (e, r)) : FitE e ∧ r.length ≤ b.length ∧ (mayE e = true → b = putE e ++ r) := by
  unfold takeE at h
  split at h
  · cases h
  · rename_i c r1 h1
    split at h
    · cases h
    · rename_i q r2 h2
      split at h
      · cases h
      · rename_i o r3 h3
        simp only [Option.some.injEq, Prod.mk.injEq] at h
        obtain ⟨rfl, rfl⟩ := h
        obtain ⟨a1, a2⟩ := takeNum_some h1
        obtain ⟨b1, b2⟩ := takeNum_some h2
        obtain ⟨c1, c2, c3⟩ := takeO_some h3
        refine ⟨⟨numI_I64 _, numI_I64 _, c3⟩, ?_, fun hm => ?_⟩
        · rw [a2, b2, c2]; simp; omega
        · unfold mayE at hm
          simp only [Bool.and_eq_true, decide_eq_true_eq] at hm
          obtain ⟨d1, d2, d3, d4⟩ := hm
          have d3 := fitsB_mem d3 _ (List.mem_singleton.2 rfl)
          unfold putE
          simp only
          rw [numI_of c a1 d1, numI_of q b1 (by omega), List.append_assoc, List.append_assoc, ← c2, ← b2]; exact a2
theorem takeE_put (e : EntT) (he : FitE e) (h : mayE e = true) (r : List UInt8) : takeE (putE e ++ r) = some (e, r) := by
  unfold mayE at h
  simp only [Bool.and_eq_true, decide_eq_true_eq] at h
  obtain ⟨d1, d2, d3, d4⟩ := h
  have d3 := fitsB_mem d3 _ (List.mem_singleton.2 rfl)
  unfold takeE putE
  rw [List.append_assoc, List.append_assoc, takeNum_leb _ _ (by omega)]
  simp only
  rw [takeNum_leb _ _ (by omega)]
  simp only [takeO_put _ he.2.2 d4, numI_nat e.1 ⟨d1, by omega⟩, numI_nat e.2.1 ⟨by omega, d3.2⟩]

theorem decN_snoc {α : Type} (dec : List UInt8 → Option (α × List UInt8)) : ∀ (n : Nat) (b : List UInt8), decN dec (n + 1) b = match decN dec n b with
    | none => none
    | some (l, r) => match dec r with
      | none => none
      | some (x, r') => some (l ++ [x], r')
  | 0, b => by
    simp only [decN]
    rcases dec b with _ | ⟨x, r⟩ <;> rfl
  | n + 1, b => by
    rw [decN]
    conv => rhs; rw [decN]
    rcases dec b with _ | ⟨x, r⟩
    · rfl
    · simp only
      rw [decN_snoc dec n r]
      rcases decN dec n r with _ | ⟨l, r'⟩
      · rfl
      · simp only
        rcases dec r' with _ | ⟨y, r''⟩ <;> rfl
theorem decN_none {α : Type} (dec : List UInt8 → Option (α × List UInt8)) {n : Nat} {b : List UInt8} (h : decN dec n b = none) : ∀ k, decN dec (n + k) b = none
  | 0 => h
  | k + 1 => by rw [← Nat.add_assoc, decN_snoc, decN_none dec h k]
theorem decE_some : ∀ (n : Nat) (b : List UInt8) (l : List EntT) (r : List UInt8), decN takeE n b = some (l, r) → l.length = n ∧ r.length ≤ b.length ∧ (∀ e ∈ l, FitE e) ∧ (l.all mayE = true → b = fl putE l ++ r)
  | 0, b, l, r, h => by
    simp only [decN, Option.some.injEq, Prod.mk.injEq] at h
    obtain ⟨rfl, rfl⟩ := h
    exact ⟨rfl, Nat.le_refl _, by simp, fun _ => rfl⟩
  | n + 1, b, l, r, h => by
    simp only [decN] at h
    split at h
    · cases h
    · rename_i x r1 hx
      split at h
      · cases h
      · rename_i l1 r2 hl
        simp only [Option.some.injEq, Prod.mk.injEq] at h
        obtain ⟨rfl, rfl⟩ := h
        obtain ⟨e1, e2, e3, e4⟩ := decE_some n r1 l1 r2 hl
        obtain ⟨x1, x2, x3⟩ := takeE_some hx
        refine ⟨by simp [e1], by omega, fun e he => ?_, fun hm => ?_⟩
        · rcases List.mem_cons.1 he with rfl | he
          · exact x1
          · exact e3 e he
        · simp only [List.all_cons, Bool.and_eq_true] at hm
          rw [fl_cons, List.append_assoc, ← e4 hm.2]
          exact x3 hm.1

theorem tS_step {r q : List UInt8} {i : Nat} (h : tS r (i + 1) = some q) : uS r i < 18446744073709551616 ∧ tS r i = some (leb (uS r i) ++ q) := numT_some h
theorem mkN_fit (k : UInt8) (r : List UInt8) {l : List EntT} (hl : l.length ≤ 9223372036854775807) (he : ∀ e ∈ l, FitE e) : FitN (mkN k r l) := ⟨hl, he⟩

theorem takeB_some {k : UInt8} {r : List UInt8} {x : NT} (h : takeB k r = some x) : rightN x = true ∧ FitN x ∧ k :: r = bodyN x := by
  unfold takeB at h
  split at h
  · cases h
  rename_i h6
  split at h
  · cases h
  rename_i h14
  split at h
  · cases h
  rename_i q hq
  split at h
  · rename_i l hd
    split at h
    · rename_i hr
      simp only [Option.some.injEq] at h
      subst h
      obtain ⟨d1, d2, d3, d4⟩ := decE_some _ _ _ _ hd
      have hall : l.all mayE = true := by
        unfold rightN at hr
        simp only [Bool.and_eq_true] at hr
        exact hr.2.2
      have d4 := d4 hall
      rw [List.append_nil] at d4
      have R := rightN_of hr
      refine ⟨hr, mkN_fit k r (by omega) d3, ?_⟩
      obtain ⟨a14, b14⟩ := tS_step hq
      obtain ⟨a13, b13⟩ := tS_step b14
      obtain ⟨a12, b12⟩ := tS_step b13
      obtain ⟨a11, b11⟩ := tS_step b12
      obtain ⟨a10, b10⟩ := tS_step b11
      obtain ⟨a9, b9⟩ := tS_step b10
      obtain ⟨a8, b8⟩ := tS_step b9
      obtain ⟨a7, b7⟩ := tS_step b8
      obtain ⟨a6, b6⟩ := tS_step b7
      obtain ⟨a5, b5⟩ := tS_step b6
      obtain ⟨a4, b4⟩ := tS_step b5
      obtain ⟨a3, b3⟩ := tS_step b4
      obtain ⟨a2, b2⟩ := tS_step b3
      obtain ⟨a1, b1⟩ := tS_step b2
      obtain ⟨a0, b0⟩ := tS_step b1
      have b0 : some r = _ := b0
      simp only [Option.some.injEq] at b0
      have hld : leb (uS r 6) = [if (uS r 6 == 1) = true then 1 else 0] := by
        have : uS r 6 = 0 ∨ uS r 6 = 1 := by omega
        rcases this with e | e <;> (rw [e, leb, if_pos (by decide)]; rfl)
      unfold bodyN headB numB mkN
      simp only
      rw [numI_of _ a0 R.f.1, numI_of _ a1 R.t.1, numI_of _ a2 R.v.1, numI_of _ a3 R.n.1, numI_of _ a4 R.i.1, numI_of _ a5 R.s.1, numI_of _ a7 R.l0.1, numI_of _ a8 R.l1.1, numI_of _ a9 R.l2.1, numI_of _ a10 R.l3.1, numI_of _ a11 R.l4.1, numI_of _ a12 R.l5.1, numI_of _ a13 R.l6.1, ← hld, d1, ← d4]
      conv => lhs; rw [b0]
      simp
    · cases h
  · cases h

theorem tS_next {r q : List UInt8} {i n : Nat} (h : tS r i = some (leb n ++ q)) (hn : n < 18446744073709551616) : uS r i = n ∧ tS r (i + 1) = some q := by
  have e := numT_leb n q hn
  rw [← h] at e
  exact ⟨congrArg (·.1) e, congrArg (·.2) e⟩
theorem takeB_put {x : NT} (hr : rightN x = true) (hx : FitN x) {k : UInt8} {r : List UInt8} (h : k :: r = bodyN x) : takeB k r = some x := by
  have R := rightN_of hr
  have hall : x.log.all mayE = true := by
    unfold rightN at hr
    simp only [Bool.and_eq_true] at hr
    exact hr.2.2
  have hld : ([if x.ld then 1 else 0] : List UInt8) = leb (if x.ld then 1 else 0) := by
    rcases x.ld with _ | _
    · show ([0] : List UInt8) = leb 0
      rw [leb, if_pos (by decide)]; rfl
    · show ([1] : List UInt8) = leb 1
      rw [leb, if_pos (by decide)]; rfl
  have hl6 : (if x.ld then 1 else 0 : Nat) ≤ 1 := by rcases x.ld with _ | _ <;> decide
  obtain ⟨hk, hb⟩ : k = x.k ∧ r = leb x.f.toNat ++ (leb x.t.toNat ++ (leb x.v.toNat ++ (leb x.n.toNat ++ (leb x.i.toNat ++ (leb x.s.toNat ++ (leb (if x.ld then 1 else 0) ++ (leb x.l0.toNat ++ (leb x.l1.toNat ++ (leb x.l2.toNat ++ (leb x.l3.toNat ++ (leb x.l4.toNat ++ (leb x.l5.toNat ++ (leb x.l6.toNat ++ (leb x.log.length ++ fl putE x.log)))))))))))))) := by
    unfold bodyN headB numB at h
    rw [hld] at h
    simp only [List.take_succ_cons, List.take_zero, List.flatten_cons, List.flatten_nil, List.append_nil, List.cons_append, List.append_assoc, List.cons.injEq] at h
    exact h
  have t0 : tS r 0 = some r := rfl
  rw [hb] at t0
  rw [← hb] at t0
  have q0 : tS r 0 = some (leb x.f.toNat ++ (leb x.t.toNat ++ (leb x.v.toNat ++ (leb x.n.toNat ++ (leb x.i.toNat ++ (leb x.s.toNat ++ (leb (if x.ld then 1 else 0) ++ (leb x.l0.toNat ++ (leb x.l1.toNat ++ (leb x.l2.toNat ++ (leb x.l3.toNat ++ (leb x.l4.toNat ++ (leb x.l5.toNat ++ (leb x.l6.toNat ++ (leb x.log.length ++ fl putE x.log))))))))))))))) := congrArg some hb
  obtain ⟨u0', q1⟩ := tS_next q0 (by have := R.f; omega)
  obtain ⟨u1', q2⟩ := tS_next q1 (by have := R.t; omega)
  obtain ⟨u2', q3⟩ := tS_next q2 (by have := R.v; omega)
  obtain ⟨u3', q4⟩ := tS_next q3 (by have := R.n; omega)
  obtain ⟨u4', q5⟩ := tS_next q4 (by have := R.i; omega)
  obtain ⟨u5', q6⟩ := tS_next q5 (by have := R.s; omega)
  obtain ⟨u6', q7⟩ := tS_next q6 (by omega)
  obtain ⟨u7', q8⟩ := tS_next q7 (by have := R.l0; omega)
  obtain ⟨u8', q9⟩ := tS_next q8 (by have := R.l1; omega)
  obtain ⟨u9', q10⟩ := tS_next q9 (by have := R.l2; omega)
  obtain ⟨u10', q11⟩ := tS_next q10 (by have := R.l3; omega)
  obtain ⟨u11', q12⟩ := tS_next q11 (by have := R.l4; omega)
  obtain ⟨u12', q13⟩ := tS_next q12 (by have := R.l5; omega)
  obtain ⟨u13', q14⟩ := tS_next q13 (by have := R.l6; omega)
  obtain ⟨u14', q15⟩ := tS_next q14 (by have := R.ll; omega)
  have u0 : uS r 0 = x.f.toNat := u0'
  have u1 : uS r 1 = x.t.toNat := u1'
  have u2 : uS r 2 = x.v.toNat := u2'
  have u3 : uS r 3 = x.n.toNat := u3'
  have u4 : uS r 4 = x.i.toNat := u4'
  have u5 : uS r 5 = x.s.toNat := u5'
  have u6 : uS r 6 = (if x.ld then 1 else 0) := u6'
  have u7 : uS r 7 = x.l0.toNat := u7'
  have u8 : uS r 8 = x.l1.toNat := u8'
  have u9 : uS r 9 = x.l2.toNat := u9'
  have u10 : uS r 10 = x.l3.toNat := u10'
  have u11 : uS r 11 = x.l4.toNat := u11'
  have u12 : uS r 12 = x.l5.toNat := u12'
  have u13 : uS r 13 = x.l6.toNat := u13'
  have u14 : uS r 14 = x.log.length := u14'
  have q15 : tS r 15 = some (fl putE x.log) := q15
  have hm : mkN k r x.log = x := by
    unfold mkN
    rw [u0, u1, u2, u3, u4, u5, u6, u7, u8, u9, u10, u11, u12, u13, hk]
    rw [numI_nat x.f ⟨R.f.1, by have := R.f.2; omega⟩, numI_nat x.t ⟨R.t.1, by have := R.t.2; omega⟩, numI_nat x.v R.v, numI_nat x.n R.n, numI_nat x.i R.i, numI_nat x.s R.s, numI_nat x.l0 R.l0, numI_nat x.l1 R.l1, numI_nat x.l2 R.l2, numI_nat x.l3 R.l3, numI_nat x.l4 R.l4, numI_nat x.l5 R.l5, numI_nat x.l6 R.l6]
    have : ((if x.ld then 1 else 0 : Nat) == 1) = x.ld := by rcases x.ld with _ | _ <;> rfl
    rw [this]
  have hd : decN takeE x.log.length (fl putE x.log) = some (x.log, []) := by
    have := decN_enc putE takeE x.log [] fun e he r => takeE_put e (hx.he e he) (List.all_eq_true.1 hall e he) r
    rwa [List.append_nil] at this
  unfold takeB
  rw [if_neg (by omega), if_neg (by have := R.ll; omega), q15]
  simp only
  rw [u14, hd]
  simp only [hm, hr, if_true]

theorem bodyN_cons (x : NT) : ∃ k r, k :: r = bodyN x := ⟨x.k, _, rfl⟩
theorem takeN_some {b : List UInt8} {x : NT} (h : takeN b = some x) : rightN x = true ∧ FitN x ∧ b = sealed (bodyN x) := by
  unfold takeN at h
  split at h
  · rename_i k r hs
    obtain ⟨h1, h2, h3⟩ := takeB_some h
    obtain ⟨g1, _⟩ := takeSeal_some hs
    rw [List.append_nil, h3] at g1
    exact ⟨h1, h2, g1⟩
  · cases h
theorem bodyN_len {x : NT} (hr : rightN x = true) (hx : FitN x) : (bodyN x).length ≤ 283000 := by
  have R := rightN_of hr
  have h1 := headB_len R 14
  have h2 := logB_len R hx x.log.length
  rw [List.take_length] at h2
  have h3 := leb_ten x.log.length (by have := R.ll; omega)
  unfold bodyN
  simp only [List.length_append]; omega
theorem takeN_put {x : NT} (hr : rightN x = true) (hx : FitN x) : takeN (sealed (bodyN x)) = some x := by
  have hl := bodyN_len hr hx
  have := takeSeal_sealed (bodyN x) [] (by omega)
  rw [List.append_nil] at this
  obtain ⟨k, r, hk⟩ := bodyN_cons x
  unfold takeN
  rw [this, ← hk]
  exact takeB_put hr hx hk
end Go.Proofs.Ytflpphgccjlkjaa

set_option linter.unusedSimpArgs false
set_option linter.unusedVariables false
namespace Go.Proofs.Ytflpphgccjlkjaa
open Go Go.AM

def okE (e : EntT) : Bool := decide (e.2.2.1.2.1.length ≤ 12) && decide (e.2.2.1.2.2.2.1.length ≤ 12)
def fewE (l : List EntT) : List EntT := (l.take 310).takeWhile okE
theorem fewE_at (l : List EntT) (i : Nat) (hi : i ≤ 310) (h : ∀ x ∈ l.take i, okE x = true) (hs : i = 310 ∨ i = l.length ∨ ∃ x, l[i]? = some x ∧ okE x = false) : fewE l = l.take i := by
  unfold fewE
  rw [takeWhile_stop okE (l.take 310) i (fun x hx => h x (by rw [List.take_take] at hx; rw [Nat.min_eq_left hi] at hx; exact hx)) (fun x hx => ?_)]
  · rw [List.take_take, Nat.min_eq_left hi]
  · rw [List.getElem?_take] at hx
    split at hx
    · rename_i hlt
      rcases hs with rfl | rfl | ⟨y, hy, hb⟩
      · omega
      · simp at hx
      · rw [hy] at hx; cases hx; exact hb
    · cases hx
def fewN (x : NT) : NT := { x with log := fewE x.log }

set_option maxRecDepth 8000 in
set_option maxHeartbeats 2000000 in
theorem few17 (x : NT) (h : FitN x) : AFun Try.prog 10 [.d (.agg (encN x))] [] (.d (.agg (encN (fewN x)))) [] := by
  obtain ⟨k, f, t, v, n, i0, s, ld, l0, l1, l2, l3, l4, l5, l6, l⟩ := x
  have hl := h.hl
  have he := h.he
  simp only at hl he
  clear h
  refine AFun.of_walk hP Try.func10 rfl rfl rfl (by simp) rfl ?_
  simp only [Try.f10, encN, fewN, am, simprocAttr, tys]
  refine ALoopW.intro 36 0 (ι := { i : Nat // i ≤ l.length ∧ i ≤ 310 ∧ ∀ x ∈ l.take i, okE x = true }) (fun i => [(1, .ptr 0 0), (2, .ptr 1 0), (6, .d (.sl 7 (l.map encE))), (7, int l.length), (8, int i.1)])
    (fun _ => [.box [.d (.lit (.int .u8 k.toNat)), int f, int t, int v, int n, int i0, int s, bool ld, int l0, int l1, int l2, int l3, int l4, int l5, int l6, .d (.sl 7 (l.map encE))], .box [.d (.lit (.int .u8 0)), int 0, int 0, int 0, int 0, int 0, int 0, bool false, int 0, int 0, int 0, int 0, int 0, int 0, int 0, nilS]]) (fun i => l.length - i.1) ⟨0, by omega, by omega, by simp⟩ [] [0, 1] ?_ (fun ⟨i, hi, h12, hall⟩ => ?_)
  · exact ⟨rfl, rfl, by simp, (fun i hi => absurd hi (Nat.not_lt_zero _)), ⟨.inr rfl, .inr rfl, .inr rfl, .inr rfl, .inr rfl, trivial⟩, ⟨.inr ⟨by decide, rfl⟩, .inr ⟨by decide, rfl⟩, trivial⟩, rfl, by decide, rfl, (by first | rfl | simp [scRow, tkC_scs])⟩
  have hend : ∀ (hs : i = 310 ∨ i = l.length ∨ ∃ x, l[i]? = some x ∧ okE x = false), List.take i (List.map encE l) = (fewE l).map encE := fun hs => by rw [fewE_at l i h12 hall hs, List.map_take]
  rcases Nat.lt_or_ge i l.length with hlt | hge
  case' inr =>
    have hlt2 : ¬ ((i : Int) < l.length) := by omega
    have hi' : i = l.length := by omega
    have e : fewE l = l := by rw [fewE_at l i h12 hall (.inr (.inl hi')), hi', List.take_length]
    simp only [int, bool, nilS, hlt2, e, FinR, evRes, evRVs, evRV, am, simprocAttr, tys]
    exact ⟨_, [], [], rfl, Ent.plain rfl rfl rfl trivial rfl, rfl, rfl⟩
  have hb : l[i]? = some l[i] := List.getElem?_eq_getElem hlt
  have hlt2 : ((i : Int) < l.length) := by omega
  have e1 : IntKind.i64.wrap ((i : Int) + 1) = ((i + 1 : Nat) : Int) := by rw [IntWalk.i64_in _ (by omega)]; simp
  have hle : ((i : Int) ≤ l.length) := by omega
  have hle0 : ((0 : Int) ≤ (i : Int)) := by omega
  rcases hg : decide (i < 310 ∧ l[i].2.2.1.2.1.length ≤ 12 ∧ l[i].2.2.1.2.2.2.1.length ≤ 12) with _ | _
  case' true =>
    obtain ⟨q1, q2, q3⟩ := of_decide_eq_true hg
    have g1 : ¬ ((310 : Int) ≤ i) := by omega
    have g2 : ¬ ((12 : Int) < l[i].2.2.1.2.1.length) := by omega
    have g3 : ¬ ((12 : Int) < l[i].2.2.1.2.2.2.1.length) := by omega
    simp only [int, bool, nilS, hb, hlt2, encE, g1, g2, g3, e1, List.length_map, Int.natCast_nonneg, hle, am, simprocAttr, tys]
    refine ⟨⟨i + 1, by omega, by omega, fun x hx' => ?_⟩, [], [0, 1], ⟨rfl, rfl, by simp, (fun i hi => absurd hi (Nat.not_lt_zero _)), ⟨.inr rfl, .inr rfl, .inr rfl, .inr rfl, .inr rfl, trivial⟩, ⟨.inr ⟨by decide, rfl⟩, .inr ⟨by decide, rfl⟩, trivial⟩, rfl, by decide, rfl, (by first | rfl | simp [scRow, tkC_scs])⟩, by show l.length - (i + 1) < l.length - i; omega⟩
    rw [List.take_succ_eq_append_getElem hlt] at hx'
    rcases List.mem_append.1 hx' with h | h
    · exact hall x h
    · simp at h; subst h; simp [okE]; omega
  have hg' := of_decide_eq_false hg
  have hcase : ((310 : Int) ≤ i ∧ i = 310) ∨ (¬ ((310 : Int) ≤ i) ∧ ((12 : Int) < l[i].2.2.1.2.1.length) ∧ okE l[i] = false) ∨ (¬ ((310 : Int) ≤ i) ∧ ¬ ((12 : Int) < l[i].2.2.1.2.1.length) ∧ ((12 : Int) < l[i].2.2.1.2.2.2.1.length) ∧ okE l[i] = false) := by
    rcases Nat.lt_or_ge i 310 with a | a
    · right
      rcases Nat.lt_or_ge 12 l[i].2.2.1.2.1.length with b | b
      · left; exact ⟨by omega, by omega, by simp [okE]; omega⟩
      · right; exact ⟨by omega, by omega, by omega, by simp [okE]; omega⟩
    · left; omega
  rcases hcase with ⟨g1, hs⟩ | ⟨g1, g2, hs⟩ | ⟨g1, g2, g3, hs⟩
  · have hE := hend (.inl hs)
    simp only [int, bool, nilS, hb, hlt2, encE, g1, List.length_map, hle, hle0, hE, Int.natCast_nonneg, Int.toNat_natCast, List.drop_zero, FinR, evRes, evRVs, evRV, am, simprocAttr, tys]
    exact ⟨_, [], [], rfl, Ent.plain rfl rfl rfl trivial rfl, rfl, rfl⟩
  · have hE := hend (.inr (.inr ⟨l[i], hb, hs⟩))
    simp only [int, bool, nilS, hb, hlt2, encE, g1, g2, List.length_map, hle, hle0, hE, Int.natCast_nonneg, Int.toNat_natCast, List.drop_zero, FinR, evRes, evRVs, evRV, am, simprocAttr, tys]
    exact ⟨_, [], [], rfl, Ent.plain rfl rfl rfl trivial rfl, rfl, rfl⟩
  · have hE := hend (.inr (.inr ⟨l[i], hb, hs⟩))
    simp only [int, bool, nilS, hb, hlt2, encE, g1, g2, g3, List.length_map, hle, hle0, hE, Int.natCast_nonneg, Int.toNat_natCast, List.drop_zero, FinR, evRes, evRVs, evRV, am, simprocAttr, tys]
    exact ⟨_, [], [], rfl, Ent.plain rfl rfl rfl trivial rfl, rfl, rfl⟩
end Go.Proofs.Ytflpphgccjlkjaa

set_option linter.unusedSimpArgs false
set_option linter.unusedVariables false
namespace Go.Proofs.Ytflpphgccjlkjaa
open Go Go.AM

def exN : NT := ⟨2, 1, 0, 2, 3, 0, 0, false, 0, 0, 0, 0, 0, 0, 0, []⟩
theorem fitExN : FitN exN := ⟨by decide, by simp [exN]⟩
theorem exR : rightN exN = true := by decide
def exC : List DV := [.lit (.int .u8 2), .lit (.int .i64 1), .lit (.int .i64 0), .lit (.int .i64 2), .lit (.int .i64 3), .lit (.int .i64 0), .lit (.int .i64 0), .lit (.bool false), .lit (.int .i64 0), .lit (.int .i64 0), .lit (.int .i64 0), .lit (.int .i64 0), .lit (.int .i64 0), .lit (.int .i64 0), .lit (.int .i64 0), .lit (.slice none 0 0)]
theorem exN_rep (rows : AM.Rows) (β : Nat → AM.Loc) (w : World) (X : Nat → Prop) (v : Value) (h : repP rows β w X (.d (.agg exC)) v) : repP rows β w X (.d (.agg (encN exN))) v := by
  unfold repP rep at *
  obtain ⟨vs, e, h⟩ := h
  have hc : cle exC (encN exN) := ⟨.inl rfl, .inl rfl, .inl rfl, .inl rfl, .inl rfl, .inl rfl, .inl rfl, .inl rfl, .inl rfl, .inl rfl, .inl rfl, .inl rfl, .inl rfl, .inl rfl, .inl rfl, .inr ⟨rfl, 7, rfl⟩, trivial⟩
  exact ⟨vs, e, reps_cle hc h⟩
theorem leb_sm (n : Nat) (h : n < 128) : leb n = [UInt8.ofNat n] := by rw [leb, if_pos h]
theorem exBody : bodyN exN = [2, 1, 0, 2, 3, 0, 0, 0, 0, 0, 0, 0, 0, 0, 0, 0] := by
  have h : ∀ n : Nat, n < 128 → leb n = [UInt8.ofNat n] := leb_sm
  have h0 := h 0 (by decide); have h1 := h 1 (by decide); have h2 := h 2 (by decide); have h3 := h 3 (by decide)
  show 2 :: ([leb 1, leb 0, leb 2, leb 3, leb 0, leb 0, [0], leb 0, leb 0, leb 0, leb 0, leb 0, leb 0, leb 0] : List (List UInt8)).flatten ++ leb 0 ++ [] = _
  rw [h0, h1, h2, h3]; rfl
theorem exSealed : ∃ y : List UInt8, sealed (bodyN exN) = 16 :: 2 :: 1 :: 0 :: 2 :: 3 :: y ∧ y.length = 15 := by
  have h16 := leb_sm 16 (by decide)
  rw [exBody]
  refine ⟨[0, 0, 0, 0, 0, 0, 0, 0, 0, 0, 0] ++ be32 (crc (leb 16 ++ [2, 1, 0, 2, 3, 0, 0, 0, 0, 0, 0, 0, 0, 0, 0, 0])), ?_, by simp [be32]⟩
  show leb 16 ++ _ ++ be32 (crc (leb 16 ++ _)) = _
  rw [h16]; rfl

theorem shown17 : AFun Try.prog 9 [] [] (bool true) [] := by
  refine AFun.of_walk hP Try.func9 rfl rfl rfl (by simp) rfl ?_
  obtain ⟨y, hy, hyl⟩ := exSealed
  have q : AFun Try.prog 12 [.d (.agg exC)] [] (.tup [.own 0, errno 0]) [.own 1 ((sealed (bodyN exN)).map encB)] := AFun.arg1 (notePut exN fitExN exR) exN_rep
  simp only [exC] at q
  rw [hy] at q
  simp only [Try.f9, am, simprocAttr, tys]
  refine ACall.of (q) [] [] rfl (by simp) (by simp) (by simp) (by repeat' (first | exact trivial | exact .inl rfl | exact .inr rfl | exact .inr ⟨rfl, rfl, rfl, by simp; done⟩ | exact .inr ⟨rfl, by simp; done⟩ | exact .inr ⟨rfl, rfl, by simp; done⟩ | apply And.intro)) (by repeat' (first | exact trivial | rfl | exact (tkC_ren.1 _ _).symm | (simp; done) | apply And.intro)) (by first | exact .inl rfl | (refine .inr ⟨trivial, ?_⟩; first | (intro row h; rcases List.mem_singleton.1 h with rfl; exact nvB _) | (intro row h; cases h; done) | (simp; done)) | (refine .inr ⟨by simp [nvP, nvP.nvPs, nvD, nilS, errno], ?_⟩; first | (intro row h; rcases List.mem_singleton.1 h with rfl; exact nvB _) | (intro row h; cases h; done) | (simp [nvRow, nvD, nvP]; done))) ?_
  have hlen : ((16 :: 2 :: 1 :: 0 :: 2 :: 3 :: y : List UInt8).length : Int) = 21 := by simp only [List.length_cons, hyl]; rfl
  have hn : (16 :: 2 :: 1 :: 0 :: 2 :: 3 :: y : List UInt8).length = 21 := by simp only [List.length_cons, hyl]
  have h6 : (16 :: 2 :: 1 :: 0 :: 2 :: 3 :: y : List UInt8).take 6 = [16, 2, 1, 0, 2, 3] := rfl
  have hz : (([16, 2, 1, 0, 2, 3] : List UInt8) == [16, 2, 1, 0, 2, 3]) = true := rfl
  generalize (16 :: 2 :: 1 :: 0 :: 2 :: 3 :: y : List UInt8) = z at *
  generalize hz6 : ([16, 2, 1, 0, 2, 3] : List UInt8) = z6 at h6
  have hz' : (z6 == [16, 2, 1, 0, 2, 3]) = true := by rw [← hz6]; rfl
  simp only [errno, bool, List.length_map, hn, hlen, List.drop_zero, ← List.map_take, h6, strOf_encB, bl_toList, hz', FinR, evRes, evRVs, evRV, am, simprocAttr, tys]
  exact ⟨_, [], [], rfl, Ent.plain rfl rfl rfl trivial rfl, rfl, rfl⟩
end Go.Proofs.Ytflpphgccjlkjaa
