/- Proved here: what the functions of the program compute. No condition. -/
import Derived.Test.YtflpphgccjlkjaaT7
import Derived.Test.YtflpphgccjlkjaaT4
set_option linter.all false
set_option linter.unusedSimpArgs false
set_option linter.unusedVariables false
set_option linter.unusedSimpArgs false
set_option linter.unusedVariables false
namespace Go.Proofs.Ytflpphgccjlkjaa
open Go Go.AM

/-! ## a note as bytes -/
def numB (x : NT) : List (List UInt8) := [leb x.f.toNat, leb x.t.toNat, leb x.v.toNat, leb x.n.toNat, leb x.i.toNat, leb x.s.toNat, [if x.ld then 1 else 0],
  leb x.l0.toNat, leb x.l1.toNat, leb x.l2.toNat, leb x.l3.toNat, leb x.l4.toNat, leb x.l5.toNat, leb x.l6.toNat]
def putE (e : EntT) : List UInt8 := leb e.1.toNat ++ leb e.2.1.toNat ++ putO e.2.2.1
def headB (x : NT) (i : Nat) : List UInt8 := x.k :: ((numB x).take i).flatten
def bodyN (x : NT) : List UInt8 := headB x 14 ++ leb x.log.length ++ fl putE x.log

theorem fits_of {a n : Int} (h : outB a n = false) : a ≤ n ∧ n ≤ 1099511627776 := by
  unfold outB at h
  simp only [Bool.or_eq_false_iff, decide_eq_false_iff_not] at h
  omega
theorem fitsB_mem {a : Int} {l : List Int} (h : fitsB a l = true) : ∀ n ∈ l, a ≤ n ∧ n ≤ 1099511627776 := fun n hn => by
  unfold fitsB at h
  rw [Bool.not_eq_true', List.any_eq_false] at h
  exact fits_of (by simpa using h n hn)
theorem place_of {n : Int} (h : placeB n = true) : 0 ≤ n ∧ n < 7 := by
  unfold placeB at h
  simpa using h
structure RightF (x : NT) : Prop where
  k1 : 1 ≤ x.k.toNat
  k6 : x.k.toNat ≤ 6
  f : 0 ≤ x.f ∧ x.f < 7
  t : 0 ≤ x.t ∧ x.t < 7
  ft : x.f ≠ x.t
  v : 0 ≤ x.v ∧ x.v ≤ 1099511627776
  n : 0 ≤ x.n ∧ x.n ≤ 1099511627776
  i : 0 ≤ x.i ∧ x.i ≤ 1099511627776
  s : 0 ≤ x.s ∧ x.s ≤ 1099511627776
  l0 : 0 ≤ x.l0 ∧ x.l0 ≤ 1099511627776
  l1 : 0 ≤ x.l1 ∧ x.l1 ≤ 1099511627776
  l2 : 0 ≤ x.l2 ∧ x.l2 ≤ 1099511627776
  l3 : 0 ≤ x.l3 ∧ x.l3 ≤ 1099511627776
  l4 : 0 ≤ x.l4 ∧ x.l4 ≤ 1099511627776
  l5 : 0 ≤ x.l5 ∧ x.l5 ≤ 1099511627776
  l6 : 0 ≤ x.l6 ∧ x.l6 ≤ 1099511627776
  ll : x.log.length ≤ 300
  e : ∀ e ∈ x.log, 0 ≤ e.1 ∧ e.1 < 8 ∧ 1 ≤ e.2.1 ∧ e.2.1 ≤ 1099511627776 ∧ rightO e.2.2.1 = true
theorem rightN_of {x : NT} (h : rightN x = true) : RightF x := by
  unfold rightN headN numsN at h
  simp only [Bool.and_eq_true, Bool.not_eq_true', decide_eq_false_iff_not, beq_eq_false_iff_ne, List.all_eq_true] at h
  obtain ⟨⟨a1, a2, a3, a4, a5⟩, ⟨b1, b2, b3⟩, c⟩ := h
  have b1 := fitsB_mem b1
  have b2 := fitsB_mem b2
  refine ⟨by omega, by omega, place_of a3, place_of a4, a5, b1 _ (by simp), b1 _ (by simp), b1 _ (by simp), b1 _ (by simp), b2 _ (by simp), b2 _ (by simp), b2 _ (by simp), b2 _ (by simp), b2 _ (by simp), b2 _ (by simp), b2 _ (by simp), by omega, fun e he => ?_⟩
  have := c e he
  unfold mayE at this
  simp only [Bool.and_eq_true, decide_eq_true_eq] at this
  obtain ⟨d1, d2, d3, d4⟩ := this
  have d3 := fitsB_mem d3 e.2.1 (by simp)
  exact ⟨d1, d2, d3.1, d3.2, d4⟩
theorem lebt (n : Int) (h : 0 ≤ n ∧ n ≤ 1099511627776) : (leb n.toNat).length ≤ 10 := leb_ten _ (by omega)
theorem w64 (n : Int) (h : 0 ≤ n ∧ n ≤ 1099511627776) : IntKind.u64.wrap n = ((n.toNat : Nat) : Int) := by rw [IntWalk.u64_in _ (by omega)]; omega
theorem headB_len {x : NT} (h : RightF x) (i : Nat) : (headB x i).length ≤ 141 := by
  have q : ∀ l ∈ numB x, l.length ≤ 10 := fun l hl => by
    simp only [numB, List.mem_cons, List.not_mem_nil, or_false] at hl
    rcases hl with rfl | rfl | rfl | rfl | rfl | rfl | rfl | rfl | rfl | rfl | rfl | rfl | rfl | rfl
    · exact lebt _ ⟨h.f.1, by have := h.f.2; omega⟩
    · exact lebt _ ⟨h.t.1, by have := h.t.2; omega⟩
    · exact lebt _ h.v
    · exact lebt _ h.n
    · exact lebt _ h.i
    · exact lebt _ h.s
    · simp
    · exact lebt _ h.l0
    · exact lebt _ h.l1
    · exact lebt _ h.l2
    · exact lebt _ h.l3
    · exact lebt _ h.l4
    · exact lebt _ h.l5
    · exact lebt _ h.l6
  have e := fl_len (id : List UInt8 → List UInt8) 10 ((numB x).take i) fun l hl => q l (List.mem_of_mem_take hl)
  have hl : ((numB x).take i).length ≤ 14 := by simp [numB]; omega
  unfold headB
  have e2 : fl (id : List UInt8 → List UInt8) ((numB x).take i) = ((numB x).take i).flatten := by simp [fl]
  rw [e2] at e
  rw [List.length_cons]; omega
theorem putE_len {x : NT} (h : RightF x) (hx : FitN x) (e : EntT) (he : e ∈ x.log) : (putE e).length ≤ 940 := by
  obtain ⟨a, b, c, d, r⟩ := h.e e he
  have := putO_len (hx.he e he).2.2 r
  have := lebt e.1 ⟨a, by omega⟩
  have := lebt e.2.1 ⟨by omega, d⟩
  simp only [putE, List.length_append]; omega
theorem logB_len {x : NT} (h : RightF x) (hx : FitN x) (i : Nat) : (fl putE (x.log.take i)).length ≤ 282000 := by
  have e := fl_len putE 940 (x.log.take i) fun e he => putE_len h hx e (List.mem_of_mem_take he)
  have : (x.log.take i).length ≤ 300 := by have := h.ll; simp; omega
  have : (x.log.take i).length * 940 ≤ 300 * 940 := Nat.mul_le_mul_right _ this
  omega
theorem headB_succ (x : NT) (i : Nat) (b : List UInt8) (h : (numB x)[i]? = some b) : headB x i ++ b = headB x (i + 1) := by
  unfold headB
  rw [List.take_add_one, h]; simp
theorem logB_succ (x : NT) (i : Nat) (h : i < x.log.length) : fl putE (x.log.take i) ++ putE x.log[i] = fl putE (x.log.take (i + 1)) := by
  rw [List.take_succ_eq_append_getElem h, fl_snoc]

theorem notePutN (x : NT) (h : FitN x) (hr : rightN x = false) : AFun Try.prog 12 [.d (.agg (encN x))] [] (.tup [nilS, errno 1]) [] := by
  refine AFun.of_walk hP Try.func12 rfl rfl rfl (by simp) rfl ?_
  have c := noteRight x h
  rw [hr] at c
  simp only [encN] at c
  simp only [Try.f12, encN, am, simprocAttr, tys]
  refine ACall.of (c) [] [] rfl (by simp) (by simp) (by simp) (by repeat' (first | exact trivial | exact .inl rfl | exact .inr rfl | exact .inr ⟨rfl, rfl, rfl, by simp; done⟩ | exact .inr ⟨rfl, by simp; done⟩ | exact .inr ⟨rfl, rfl, by simp; done⟩ | apply And.intro)) (by repeat' (first | exact trivial | rfl | exact (tkC_ren.1 _ _).symm | (simp; done) | apply And.intro)) (by first | exact .inl rfl | (refine .inr ⟨trivial, ?_⟩; first | (intro row h; rcases List.mem_singleton.1 h with rfl; exact nvB _) | (intro row h; cases h; done) | (simp; done)) | (refine .inr ⟨by simp [nvP, nvP.nvPs, nvD, nilS, errno], ?_⟩; first | (intro row h; rcases List.mem_singleton.1 h with rfl; exact nvB _) | (intro row h; cases h; done) | (simp [nvRow, nvD, nvP]; done))) ?_
  simp only [bool, nilS, errno, FinR, evRes, evRVs, evRV, am, simprocAttr, tys]
  exact ⟨_, [], [], rfl, Ent.plain rfl rfl rfl trivial rfl, rfl, rfl⟩

set_option maxRecDepth 8000 in
set_option maxHeartbeats 4000000 in
theorem notePut (x : NT) (h : FitN x) (hr : rightN x = true) : AFun Try.prog 12 [.d (.agg (encN x))] [] (.tup [.own 0, errno 0]) [.own 1 ((sealed (bodyN x)).map encB)] := by
  refine AFun.of_walk hP Try.func12 rfl rfl rfl (by simp) rfl ?_
  have c := noteRight x h
  have R := rightN_of hr
  rw [hr] at c
  simp only [encN] at c
  have hbl := headB_len R
  simp only [Try.f12, encN, am, simprocAttr, tys]
  refine ACall.of (c) [] [] rfl (by simp) (by simp) (by simp) (by repeat' (first | exact trivial | exact .inl rfl | exact .inr rfl | exact .inr ⟨rfl, rfl, rfl, by simp; done⟩ | exact .inr ⟨rfl, by simp; done⟩ | exact .inr ⟨rfl, rfl, by simp; done⟩ | apply And.intro)) (by repeat' (first | exact trivial | rfl | exact (tkC_ren.1 _ _).symm | (simp; done) | apply And.intro)) (by first | exact .inl rfl | (refine .inr ⟨trivial, ?_⟩; first | (intro row h; rcases List.mem_singleton.1 h with rfl; exact nvB _) | (intro row h; cases h; done) | (simp; done)) | (refine .inr ⟨by simp [nvP, nvP.nvPs, nvD, nilS, errno], ?_⟩; first | (intro row h; rcases List.mem_singleton.1 h with rfl; exact nvB _) | (intro row h; cases h; done) | (simp [nvRow, nvD, nvP]; done))) ?_
  simp only [bool, am, simprocAttr, tys]
  refine ACall.of (noteNumbersL (fun j => (encN x).getD j.val nlD)) [0] [] rfl (by simp) (by simp) (by simp) (by repeat' (first | exact trivial | exact .inl rfl | exact .inr rfl | exact .inr ⟨rfl, rfl, rfl, by simp; done⟩ | exact .inr ⟨rfl, by simp; done⟩ | exact .inr ⟨rfl, rfl, by simp; done⟩ | apply And.intro)) (by repeat' (first | exact trivial | rfl | exact (tkC_ren.1 _ _).symm | (simp; done) | apply And.intro)) (by first | exact .inl rfl | (refine .inr ⟨trivial, ?_⟩; first | (intro row h; rcases List.mem_singleton.1 h with rfl; exact nvB _) | (intro row h; cases h; done) | (simp; done)) | (refine .inr ⟨by simp [nvP, nvP.nvPs, nvD, nilS, errno], ?_⟩; first | (intro row h; rcases List.mem_singleton.1 h with rfl; exact nvB _) | (intro row h; cases h; done) | (simp [nvRow, nvD, nvP]; done))) ?_
  simp only [nums, am, simprocAttr, tys]
  refine ALoopW.intro 78 0 (ι := { i : Nat // i ≤ 14 }) (fun i => [(1, .ptr 0 0), (4, .own 1), (17, .own 2), (18, int 14), (19, int i.1)]) (fun i => [.box ((encN x).map .d), .own 1 ((headB x i.1).map encB), .box nums]) (fun i => 14 - i.1) ⟨0, by omega⟩ [] [0, 1, 2] ?_ (fun ⟨i, hi⟩ => ?_)
  · exact ⟨rfl, rfl, by simp, (fun i hi => absurd hi (Nat.not_lt_zero _)), ⟨.inr rfl, .inr rfl, .inr rfl, .inr rfl, .inr rfl, trivial⟩, ⟨.inr ⟨by decide, rfl⟩, .inr ⟨by decide, rfl⟩, .inr ⟨by decide, rfl⟩, trivial⟩, rfl, by decide, rfl, (by first | rfl | simp [scRow, tkC_scs])⟩
  simp only
  rcases (by omega : i = 0 ∨ i = 1 ∨ i = 2 ∨ i = 3 ∨ i = 4 ∨ i = 5 ∨ i = 6 ∨ i = 7 ∨ i = 8 ∨ i = 9 ∨ i = 10 ∨ i = 11 ∨ i = 12 ∨ i = 13 ∨ i = 14) with rfl | rfl | rfl | rfl | rfl | rfl | rfl | rfl | rfl | rfl | rfl | rfl | rfl | rfl | rfl
  · have hb := headB_succ x 0 _ rfl
    simp only [int, encN, nums, nilP, Int.cast_ofNat_Int, List.map_cons, List.map_nil, (w64 x.f ⟨R.f.1, by have := R.f.2; omega⟩), am, simprocAttr, tys]
    refine ACall.of (octsPut (headB x 0) x.f.toNat (by have := hbl 0; omega) (by have := R.f.2; omega)) [] [1] rfl (by simp) (by simp) (by simp) (by repeat' (first | exact trivial | exact .inl rfl | exact .inr rfl | exact .inr ⟨rfl, rfl, rfl, by simp; done⟩ | exact .inr ⟨rfl, by simp; done⟩ | exact .inr ⟨rfl, rfl, by simp; done⟩ | apply And.intro)) (by repeat' (first | exact trivial | rfl | exact (tkC_ren.1 _ _).symm | (simp; done) | apply And.intro)) (by first | exact .inl rfl | (refine .inr ⟨trivial, ?_⟩; first | (intro row h; rcases List.mem_singleton.1 h with rfl; exact nvB _) | (intro row h; cases h; done) | (simp; done)) | (refine .inr ⟨by simp [nvP, nvP.nvPs, nvD, nilS, errno], ?_⟩; first | (intro row h; rcases List.mem_singleton.1 h with rfl; exact nvB _) | (intro row h; cases h; done) | (simp [nvRow, nvD, nvP]; done))) ?_
    simp only [hb, am, simprocAttr, tys]
    exact ⟨⟨1, by omega⟩, [], [0, 3, 2], ⟨rfl, rfl, by simp, (fun i hi => absurd hi (Nat.not_lt_zero _)), ⟨.inr rfl, .inr rfl, .inr rfl, .inr rfl, .inr rfl, trivial⟩, ⟨.inr ⟨by decide, rfl⟩, .inr ⟨by decide, rfl⟩, .inr ⟨by decide, rfl⟩, trivial⟩, rfl, by decide, rfl, (by first | rfl | simp [scRow, tkC_scs])⟩, by show 14 - 1 < 14 - 0; decide⟩
  · have hb := headB_succ x 1 _ rfl
    simp only [int, encN, nums, nilP, Int.cast_ofNat_Int, List.map_cons, List.map_nil, (w64 x.t ⟨R.t.1, by have := R.t.2; omega⟩), am, simprocAttr, tys]
    refine ACall.of (octsPut (headB x 1) x.t.toNat (by have := hbl 1; omega) (by have := R.t.2; omega)) [] [1] rfl (by simp) (by simp) (by simp) (by repeat' (first | exact trivial | exact .inl rfl | exact .inr rfl | exact .inr ⟨rfl, rfl, rfl, by simp; done⟩ | exact .inr ⟨rfl, by simp; done⟩ | exact .inr ⟨rfl, rfl, by simp; done⟩ | apply And.intro)) (by repeat' (first | exact trivial | rfl | exact (tkC_ren.1 _ _).symm | (simp; done) | apply And.intro)) (by first | exact .inl rfl | (refine .inr ⟨trivial, ?_⟩; first | (intro row h; rcases List.mem_singleton.1 h with rfl; exact nvB _) | (intro row h; cases h; done) | (simp; done)) | (refine .inr ⟨by simp [nvP, nvP.nvPs, nvD, nilS, errno], ?_⟩; first | (intro row h; rcases List.mem_singleton.1 h with rfl; exact nvB _) | (intro row h; cases h; done) | (simp [nvRow, nvD, nvP]; done))) ?_
    simp only [hb, am, simprocAttr, tys]
    exact ⟨⟨2, by omega⟩, [], [0, 3, 2], ⟨rfl, rfl, by simp, (fun i hi => absurd hi (Nat.not_lt_zero _)), ⟨.inr rfl, .inr rfl, .inr rfl, .inr rfl, .inr rfl, trivial⟩, ⟨.inr ⟨by decide, rfl⟩, .inr ⟨by decide, rfl⟩, .inr ⟨by decide, rfl⟩, trivial⟩, rfl, by decide, rfl, (by first | rfl | simp [scRow, tkC_scs])⟩, by show 14 - 2 < 14 - 1; decide⟩
  · have hb := headB_succ x 2 _ rfl
    simp only [int, encN, nums, nilP, Int.cast_ofNat_Int, List.map_cons, List.map_nil, (w64 x.v ⟨R.v.1, by have := R.v.2; omega⟩), am, simprocAttr, tys]
    refine ACall.of (octsPut (headB x 2) x.v.toNat (by have := hbl 2; omega) (by have := R.v.2; omega)) [] [1] rfl (by simp) (by simp) (by simp) (by repeat' (first | exact trivial | exact .inl rfl | exact .inr rfl | exact .inr ⟨rfl, rfl, rfl, by simp; done⟩ | exact .inr ⟨rfl, by simp; done⟩ | exact .inr ⟨rfl, rfl, by simp; done⟩ | apply And.intro)) (by repeat' (first | exact trivial | rfl | exact (tkC_ren.1 _ _).symm | (simp; done) | apply And.intro)) (by first | exact .inl rfl | (refine .inr ⟨trivial, ?_⟩; first | (intro row h; rcases List.mem_singleton.1 h with rfl; exact nvB _) | (intro row h; cases h; done) | (simp; done)) | (refine .inr ⟨by simp [nvP, nvP.nvPs, nvD, nilS, errno], ?_⟩; first | (intro row h; rcases List.mem_singleton.1 h with rfl; exact nvB _) | (intro row h; cases h; done) | (simp [nvRow, nvD, nvP]; done))) ?_
    simp only [hb, am, simprocAttr, tys]
    exact ⟨⟨3, by omega⟩, [], [0, 3, 2], ⟨rfl, rfl, by simp, (fun i hi => absurd hi (Nat.not_lt_zero _)), ⟨.inr rfl, .inr rfl, .inr rfl, .inr rfl, .inr rfl, trivial⟩, ⟨.inr ⟨by decide, rfl⟩, .inr ⟨by decide, rfl⟩, .inr ⟨by decide, rfl⟩, trivial⟩, rfl, by decide, rfl, (by first | rfl | simp [scRow, tkC_scs])⟩, by show 14 - 3 < 14 - 2; decide⟩
  · have hb := headB_succ x 3 _ rfl
    simp only [int, encN, nums, nilP, Int.cast_ofNat_Int, List.map_cons, List.map_nil, (w64 x.n ⟨R.n.1, by have := R.n.2; omega⟩), am, simprocAttr, tys]
    refine ACall.of (octsPut (headB x 3) x.n.toNat (by have := hbl 3; omega) (by have := R.n.2; omega)) [] [1] rfl (by simp) (by simp) (by simp) (by repeat' (first | exact trivial | exact .inl rfl | exact .inr rfl | exact .inr ⟨rfl, rfl, rfl, by simp; done⟩ | exact .inr ⟨rfl, by simp; done⟩ | exact .inr ⟨rfl, rfl, by simp; done⟩ | apply And.intro)) (by repeat' (first | exact trivial | rfl | exact (tkC_ren.1 _ _).symm | (simp; done) | apply And.intro)) (by first | exact .inl rfl | (refine .inr ⟨trivial, ?_⟩; first | (intro row h; rcases List.mem_singleton.1 h with rfl; exact nvB _) | (intro row h; cases h; done) | (simp; done)) | (refine .inr ⟨by simp [nvP, nvP.nvPs, nvD, nilS, errno], ?_⟩; first | (intro row h; rcases List.mem_singleton.1 h with rfl; exact nvB _) | (intro row h; cases h; done) | (simp [nvRow, nvD, nvP]; done))) ?_
    simp only [hb, am, simprocAttr, tys]
    exact ⟨⟨4, by omega⟩, [], [0, 3, 2], ⟨rfl, rfl, by simp, (fun i hi => absurd hi (Nat.not_lt_zero _)), ⟨.inr rfl, .inr rfl, .inr rfl, .inr rfl, .inr rfl, trivial⟩, ⟨.inr ⟨by decide, rfl⟩, .inr ⟨by decide, rfl⟩, .inr ⟨by decide, rfl⟩, trivial⟩, rfl, by decide, rfl, (by first | rfl | simp [scRow, tkC_scs])⟩, by show 14 - 4 < 14 - 3; decide⟩
  · have hb := headB_succ x 4 _ rfl
    simp only [int, encN, nums, nilP, Int.cast_ofNat_Int, List.map_cons, List.map_nil, (w64 x.i ⟨R.i.1, by have := R.i.2; omega⟩), am, simprocAttr, tys]
    refine ACall.of (octsPut (headB x 4) x.i.toNat (by have := hbl 4; omega) (by have := R.i.2; omega)) [] [1] rfl (by simp) (by simp) (by simp) (by repeat' (first | exact trivial | exact .inl rfl | exact .inr rfl | exact .inr ⟨rfl, rfl, rfl, by simp; done⟩ | exact .inr ⟨rfl, by simp; done⟩ | exact .inr ⟨rfl, rfl, by simp; done⟩ | apply And.intro)) (by repeat' (first | exact trivial | rfl | exact (tkC_ren.1 _ _).symm | (simp; done) | apply And.intro)) (by first | exact .inl rfl | (refine .inr ⟨trivial, ?_⟩; first | (intro row h; rcases List.mem_singleton.1 h with rfl; exact nvB _) | (intro row h; cases h; done) | (simp; done)) | (refine .inr ⟨by simp [nvP, nvP.nvPs, nvD, nilS, errno], ?_⟩; first | (intro row h; rcases List.mem_singleton.1 h with rfl; exact nvB _) | (intro row h; cases h; done) | (simp [nvRow, nvD, nvP]; done))) ?_
    simp only [hb, am, simprocAttr, tys]
    exact ⟨⟨5, by omega⟩, [], [0, 3, 2], ⟨rfl, rfl, by simp, (fun i hi => absurd hi (Nat.not_lt_zero _)), ⟨.inr rfl, .inr rfl, .inr rfl, .inr rfl, .inr rfl, trivial⟩, ⟨.inr ⟨by decide, rfl⟩, .inr ⟨by decide, rfl⟩, .inr ⟨by decide, rfl⟩, trivial⟩, rfl, by decide, rfl, (by first | rfl | simp [scRow, tkC_scs])⟩, by show 14 - 5 < 14 - 4; decide⟩
  · have hb := headB_succ x 5 _ rfl
    simp only [int, encN, nums, nilP, Int.cast_ofNat_Int, List.map_cons, List.map_nil, (w64 x.s ⟨R.s.1, by have := R.s.2; omega⟩), am, simprocAttr, tys]
    refine ACall.of (octsPut (headB x 5) x.s.toNat (by have := hbl 5; omega) (by have := R.s.2; omega)) [] [1] rfl (by simp) (by simp) (by simp) (by repeat' (first | exact trivial | exact .inl rfl | exact .inr rfl | exact .inr ⟨rfl, rfl, rfl, by simp; done⟩ | exact .inr ⟨rfl, by simp; done⟩ | exact .inr ⟨rfl, rfl, by simp; done⟩ | apply And.intro)) (by repeat' (first | exact trivial | rfl | exact (tkC_ren.1 _ _).symm | (simp; done) | apply And.intro)) (by first | exact .inl rfl | (refine .inr ⟨trivial, ?_⟩; first | (intro row h; rcases List.mem_singleton.1 h with rfl; exact nvB _) | (intro row h; cases h; done) | (simp; done)) | (refine .inr ⟨by simp [nvP, nvP.nvPs, nvD, nilS, errno], ?_⟩; first | (intro row h; rcases List.mem_singleton.1 h with rfl; exact nvB _) | (intro row h; cases h; done) | (simp [nvRow, nvD, nvP]; done))) ?_
    simp only [hb, am, simprocAttr, tys]
    exact ⟨⟨6, by omega⟩, [], [0, 3, 2], ⟨rfl, rfl, by simp, (fun i hi => absurd hi (Nat.not_lt_zero _)), ⟨.inr rfl, .inr rfl, .inr rfl, .inr rfl, .inr rfl, trivial⟩, ⟨.inr ⟨by decide, rfl⟩, .inr ⟨by decide, rfl⟩, .inr ⟨by decide, rfl⟩, trivial⟩, rfl, by decide, rfl, (by first | rfl | simp [scRow, tkC_scs])⟩, by show 14 - 6 < 14 - 5; decide⟩
  · have hb := headB_succ x 6 _ rfl
    have h6 := hbl 6
    rcases hld : x.ld with _ | _
    · rw [hld] at hb
      have eb : (headB x 6).map encB ++ [[DV.lit (.int .u8 0)]] = (headB x 7).map encB := by rw [← hb, List.map_append]; rfl
      simp only [int, encN, nums, nilP, hld, Int.cast_ofNat_Int, List.map_cons, List.map_nil, eb, List.length_map, am, simprocAttr, tys]
      exact ⟨by omega, ⟨7, by omega⟩, [], [0, 4, 2], ⟨rfl, rfl, by simp, (fun i hi => absurd hi (Nat.not_lt_zero _)), ⟨.inr rfl, .inr rfl, .inr rfl, .inr rfl, .inr rfl, trivial⟩, ⟨.inr ⟨by decide, rfl⟩, .inr ⟨by decide, rfl⟩, .inr ⟨by decide, rfl⟩, trivial⟩, rfl, by decide, rfl, (by first | rfl | simp [scRow, tkC_scs])⟩, by show 14 - 7 < 14 - 6; decide⟩
    · rw [hld] at hb
      have eb : (headB x 6).map encB ++ [[DV.lit (.int .u8 1)]] = (headB x 7).map encB := by rw [← hb, List.map_append]; rfl
      simp only [int, encN, nums, nilP, hld, Int.cast_ofNat_Int, List.map_cons, List.map_nil, eb, List.length_map, am, simprocAttr, tys]
      exact ⟨by omega, ⟨7, by omega⟩, [], [0, 4, 2], ⟨rfl, rfl, by simp, (fun i hi => absurd hi (Nat.not_lt_zero _)), ⟨.inr rfl, .inr rfl, .inr rfl, .inr rfl, .inr rfl, trivial⟩, ⟨.inr ⟨by decide, rfl⟩, .inr ⟨by decide, rfl⟩, .inr ⟨by decide, rfl⟩, trivial⟩, rfl, by decide, rfl, (by first | rfl | simp [scRow, tkC_scs])⟩, by show 14 - 7 < 14 - 6; decide⟩
  · have hb := headB_succ x 7 _ rfl
    simp only [int, encN, nums, nilP, Int.cast_ofNat_Int, List.map_cons, List.map_nil, (w64 x.l0 ⟨R.l0.1, by have := R.l0.2; omega⟩), am, simprocAttr, tys]
    refine ACall.of (octsPut (headB x 7) x.l0.toNat (by have := hbl 7; omega) (by have := R.l0.2; omega)) [] [1] rfl (by simp) (by simp) (by simp) (by repeat' (first | exact trivial | exact .inl rfl | exact .inr rfl | exact .inr ⟨rfl, rfl, rfl, by simp; done⟩ | exact .inr ⟨rfl, by simp; done⟩ | exact .inr ⟨rfl, rfl, by simp; done⟩ | apply And.intro)) (by repeat' (first | exact trivial | rfl | exact (tkC_ren.1 _ _).symm | (simp; done) | apply And.intro)) (by first | exact .inl rfl | (refine .inr ⟨trivial, ?_⟩; first | (intro row h; rcases List.mem_singleton.1 h with rfl; exact nvB _) | (intro row h; cases h; done) | (simp; done)) | (refine .inr ⟨by simp [nvP, nvP.nvPs, nvD, nilS, errno], ?_⟩; first | (intro row h; rcases List.mem_singleton.1 h with rfl; exact nvB _) | (intro row h; cases h; done) | (simp [nvRow, nvD, nvP]; done))) ?_
    simp only [hb, am, simprocAttr, tys]
    exact ⟨⟨8, by omega⟩, [], [0, 3, 2], ⟨rfl, rfl, by simp, (fun i hi => absurd hi (Nat.not_lt_zero _)), ⟨.inr rfl, .inr rfl, .inr rfl, .inr rfl, .inr rfl, trivial⟩, ⟨.inr ⟨by decide, rfl⟩, .inr ⟨by decide, rfl⟩, .inr ⟨by decide, rfl⟩, trivial⟩, rfl, by decide, rfl, (by first | rfl | simp [scRow, tkC_scs])⟩, by show 14 - 8 < 14 - 7; decide⟩
  · have hb := headB_succ x 8 _ rfl
    simp only [int, encN, nums, nilP, Int.cast_ofNat_Int, List.map_cons, List.map_nil, (w64 x.l1 ⟨R.l1.1, by have := R.l1.2; omega⟩), am, simprocAttr, tys]
    refine ACall.of (octsPut (headB x 8) x.l1.toNat (by have := hbl 8; omega) (by have := R.l1.2; omega)) [] [1] rfl (by simp) (by simp) (by simp) (by repeat' (first | exact trivial | exact .inl rfl | exact .inr rfl | exact .inr ⟨rfl, rfl, rfl, by simp; done⟩ | exact .inr ⟨rfl, by simp; done⟩ | exact .inr ⟨rfl, rfl, by simp; done⟩ | apply And.intro)) (by repeat' (first | exact trivial | rfl | exact (tkC_ren.1 _ _).symm | (simp; done) | apply And.intro)) (by first | exact .inl rfl | (refine .inr ⟨trivial, ?_⟩; first | (intro row h; rcases List.mem_singleton.1 h with rfl; exact nvB _) | (intro row h; cases h; done) | (simp; done)) | (refine .inr ⟨by simp [nvP, nvP.nvPs, nvD, nilS, errno], ?_⟩; first | (intro row h; rcases List.mem_singleton.1 h with rfl; exact nvB _) | (intro row h; cases h; done) | (simp [nvRow, nvD, nvP]; done))) ?_
    simp only [hb, am, simprocAttr, tys]
    exact ⟨⟨9, by omega⟩, [], [0, 3, 2], ⟨rfl, rfl, by simp, (fun i hi => absurd hi (Nat.not_lt_zero _)), ⟨.inr rfl, .inr rfl, .inr rfl, .inr rfl, .inr rfl, trivial⟩, ⟨.inr ⟨by decide, rfl⟩, .inr ⟨by decide, rfl⟩, .inr ⟨by decide, rfl⟩, trivial⟩, rfl, by decide, rfl, (by first | rfl | simp [scRow, tkC_scs])⟩, by show 14 - 9 < 14 - 8; decide⟩
  · have hb := headB_succ x 9 _ rfl
    simp only [int, encN, nums, nilP, Int.cast_ofNat_Int, List.map_cons, List.map_nil, (w64 x.l2 ⟨R.l2.1, by have := R.l2.2; omega⟩), am, simprocAttr, tys]
    refine ACall.of (octsPut (headB x 9) x.l2.toNat (by have := hbl 9; omega) (by have := R.l2.2; omega)) [] [1] rfl (by simp) (by simp) (by simp) (by repeat' (first | exact trivial | exact .inl rfl | exact .inr rfl | exact .inr ⟨rfl, rfl, rfl, by simp; done⟩ | exact .inr ⟨rfl, by simp; done⟩ | exact .inr ⟨rfl, rfl, by simp; done⟩ | apply And.intro)) (by repeat' (first | exact trivial | rfl | exact (tkC_ren.1 _ _).symm | (simp; done) | apply And.intro)) (by first | exact .inl rfl | (refine .inr ⟨trivial, ?_⟩; first | (intro row h; rcases List.mem_singleton.1 h with rfl; exact nvB _) | (intro row h; cases h; done) | (simp; done)) | (refine .inr ⟨by simp [nvP, nvP.nvPs, nvD, nilS, errno], ?_⟩; first | (intro row h; rcases List.mem_singleton.1 h with rfl; exact nvB _) | (intro row h; cases h; done) | (simp [nvRow, nvD, nvP]; done))) ?_
    simp only [hb, am, simprocAttr, tys]
    exact ⟨⟨10, by omega⟩, [], [0, 3, 2], ⟨rfl, rfl, by simp, (fun i hi => absurd hi (Nat.not_lt_zero _)), ⟨.inr rfl, .inr rfl, .inr rfl, .inr rfl, .inr rfl, trivial⟩, ⟨.inr ⟨by decide, rfl⟩, .inr ⟨by decide, rfl⟩, .inr ⟨by decide, rfl⟩, trivial⟩, rfl, by decide, rfl, (by first | rfl | simp [scRow, tkC_scs])⟩, by show 14 - 10 < 14 - 9; decide⟩
  · have hb := headB_succ x 10 _ rfl
    simp only [int, encN, nums, nilP, Int.cast_ofNat_Int, List.map_cons, List.map_nil, (w64 x.l3 ⟨R.l3.1, by have := R.l3.2; omega⟩), am, simprocAttr, tys]
    refine ACall.of (octsPut (headB x 10) x.l3.toNat (by have := hbl 10; omega) (by have := R.l3.2; omega)) [] [1] rfl (by simp) (by simp) (by simp) (by repeat' (first | exact trivial | exact .inl rfl | exact .inr rfl | exact .inr ⟨rfl, rfl, rfl, by simp; done⟩ | exact .inr ⟨rfl, by simp; done⟩ | exact .inr ⟨rfl, rfl, by simp; done⟩ | apply And.intro)) (by repeat' (first | exact trivial | rfl | exact (tkC_ren.1 _ _).symm | (simp; done) | apply And.intro)) (by first | exact .inl rfl | (refine .inr ⟨trivial, ?_⟩; first | (intro row h; rcases List.mem_singleton.1 h with rfl; exact nvB _) | (intro row h; cases h; done) | (simp; done)) | (refine .inr ⟨by simp [nvP, nvP.nvPs, nvD, nilS, errno], ?_⟩; first | (intro row h; rcases List.mem_singleton.1 h with rfl; exact nvB _) | (intro row h; cases h; done) | (simp [nvRow, nvD, nvP]; done))) ?_
    simp only [hb, am, simprocAttr, tys]
    exact ⟨⟨11, by omega⟩, [], [0, 3, 2], ⟨rfl, rfl, by simp, (fun i hi => absurd hi (Nat.not_lt_zero _)), ⟨.inr rfl, .inr rfl, .inr rfl, .inr rfl, .inr rfl, trivial⟩, ⟨.inr ⟨by decide, rfl⟩, .inr ⟨by decide, rfl⟩, .inr ⟨by decide, rfl⟩, trivial⟩, rfl, by decide, rfl, (by first | rfl | simp [scRow, tkC_scs])⟩, by show 14 - 11 < 14 - 10; decide⟩
  · have hb := headB_succ x 11 _ rfl
    simp only [int, encN, nums, nilP, Int.cast_ofNat_Int, List.map_cons, List.map_nil, (w64 x.l4 ⟨R.l4.1, by have := R.l4.2; omega⟩), am, simprocAttr, tys]
    refine ACall.of (octsPut (headB x 11) x.l4.toNat (by have := hbl 11; omega) (by have := R.l4.2; omega)) [] [1] rfl (by simp) (by simp) (by simp) (by repeat' (first | exact trivial | exact .inl rfl | exact .inr rfl | exact .inr ⟨rfl, rfl, rfl, by simp; done⟩ | exact .inr ⟨rfl, by simp; done⟩ | exact .inr ⟨rfl, rfl, by simp; done⟩ | apply And.intro)) (by repeat' (first | exact trivial | rfl | exact (tkC_ren.1 _ _).symm | (simp; done) | apply And.intro)) (by first | exact .inl rfl | (refine .inr ⟨trivial, ?_⟩; first | (intro row h; rcases List.mem_singleton.1 h with rfl; exact nvB _) | (intro row h; cases h; done) | (simp; done)) | (refine .inr ⟨by simp [nvP, nvP.nvPs, nvD, nilS, errno], ?_⟩; first | (intro row h; rcases List.mem_singleton.1 h with rfl; exact nvB _) | (intro row h; cases h; done) | (simp [nvRow, nvD, nvP]; done))) ?_
    simp only [hb, am, simprocAttr, tys]
    exact ⟨⟨12, by omega⟩, [], [0, 3, 2], ⟨rfl, rfl, by simp, (fun i hi => absurd hi (Nat.not_lt_zero _)), ⟨.inr rfl, .inr rfl, .inr rfl, .inr rfl, .inr rfl, trivial⟩, ⟨.inr ⟨by decide, rfl⟩, .inr ⟨by decide, rfl⟩, .inr ⟨by decide, rfl⟩, trivial⟩, rfl, by decide, rfl, (by first | rfl | simp [scRow, tkC_scs])⟩, by show 14 - 12 < 14 - 11; decide⟩
  · have hb := headB_succ x 12 _ rfl
    simp only [int, encN, nums, nilP, Int.cast_ofNat_Int, List.map_cons, List.map_nil, (w64 x.l5 ⟨R.l5.1, by have := R.l5.2; omega⟩), am, simprocAttr, tys]
    refine ACall.of (octsPut (headB x 12) x.l5.toNat (by have := hbl 12; omega) (by have := R.l5.2; omega)) [] [1] rfl (by simp) (by simp) (by simp) (by repeat' (first | exact trivial | exact .inl rfl | exact .inr rfl | exact .inr ⟨rfl, rfl, rfl, by simp; done⟩ | exact .inr ⟨rfl, by simp; done⟩ | exact .inr ⟨rfl, rfl, by simp; done⟩ | apply And.intro)) (by repeat' (first | exact trivial | rfl | exact (tkC_ren.1 _ _).symm | (simp; done) | apply And.intro)) (by first | exact .inl rfl | (refine .inr ⟨trivial, ?_⟩; first | (intro row h; rcases List.mem_singleton.1 h with rfl; exact nvB _) | (intro row h; cases h; done) | (simp; done)) | (refine .inr ⟨by simp [nvP, nvP.nvPs, nvD, nilS, errno], ?_⟩; first | (intro row h; rcases List.mem_singleton.1 h with rfl; exact nvB _) | (intro row h; cases h; done) | (simp [nvRow, nvD, nvP]; done))) ?_
    simp only [hb, am, simprocAttr, tys]
    exact ⟨⟨13, by omega⟩, [], [0, 3, 2], ⟨rfl, rfl, by simp, (fun i hi => absurd hi (Nat.not_lt_zero _)), ⟨.inr rfl, .inr rfl, .inr rfl, .inr rfl, .inr rfl, trivial⟩, ⟨.inr ⟨by decide, rfl⟩, .inr ⟨by decide, rfl⟩, .inr ⟨by decide, rfl⟩, trivial⟩, rfl, by decide, rfl, (by first | rfl | simp [scRow, tkC_scs])⟩, by show 14 - 13 < 14 - 12; decide⟩
  · have hb := headB_succ x 13 _ rfl
    simp only [int, encN, nums, nilP, Int.cast_ofNat_Int, List.map_cons, List.map_nil, (w64 x.l6 ⟨R.l6.1, by have := R.l6.2; omega⟩), am, simprocAttr, tys]
    refine ACall.of (octsPut (headB x 13) x.l6.toNat (by have := hbl 13; omega) (by have := R.l6.2; omega)) [] [1] rfl (by simp) (by simp) (by simp) (by repeat' (first | exact trivial | exact .inl rfl | exact .inr rfl | exact .inr ⟨rfl, rfl, rfl, by simp; done⟩ | exact .inr ⟨rfl, by simp; done⟩ | exact .inr ⟨rfl, rfl, by simp; done⟩ | apply And.intro)) (by repeat' (first | exact trivial | rfl | exact (tkC_ren.1 _ _).symm | (simp; done) | apply And.intro)) (by first | exact .inl rfl | (refine .inr ⟨trivial, ?_⟩; first | (intro row h; rcases List.mem_singleton.1 h with rfl; exact nvB _) | (intro row h; cases h; done) | (simp; done)) | (refine .inr ⟨by simp [nvP, nvP.nvPs, nvD, nilS, errno], ?_⟩; first | (intro row h; rcases List.mem_singleton.1 h with rfl; exact nvB _) | (intro row h; cases h; done) | (simp [nvRow, nvD, nvP]; done))) ?_
    simp only [hb, am, simprocAttr, tys]
    exact ⟨⟨14, by omega⟩, [], [0, 3, 2], ⟨rfl, rfl, by simp, (fun i hi => absurd hi (Nat.not_lt_zero _)), ⟨.inr rfl, .inr rfl, .inr rfl, .inr rfl, .inr rfl, trivial⟩, ⟨.inr ⟨by decide, rfl⟩, .inr ⟨by decide, rfl⟩, .inr ⟨by decide, rfl⟩, trivial⟩, rfl, by decide, rfl, (by first | rfl | simp [scRow, tkC_scs])⟩, by show 14 - 14 < 14 - 13; decide⟩
  · have w : IntKind.u64.wrap (x.log.length : Int) = ((x.log.length : Nat) : Int) := IntWalk.u64_in _ (by have := R.ll; omega)
    simp only [int, encN, nums, nilP, Int.cast_ofNat_Int, List.map_cons, List.map_nil, List.length_map, w, am, simprocAttr, tys]
    refine ACall.of (octsPut (headB x 14) x.log.length (by have := hbl 14; omega) (by have := R.ll; omega)) [] [1] rfl (by simp) (by simp) (by simp) (by repeat' (first | exact trivial | exact .inl rfl | exact .inr rfl | exact .inr ⟨rfl, rfl, rfl, by simp; done⟩ | exact .inr ⟨rfl, by simp; done⟩ | exact .inr ⟨rfl, rfl, by simp; done⟩ | apply And.intro)) (by repeat' (first | exact trivial | rfl | exact (tkC_ren.1 _ _).symm | (simp; done) | apply And.intro)) (by first | exact .inl rfl | (refine .inr ⟨trivial, ?_⟩; first | (intro row h; rcases List.mem_singleton.1 h with rfl; exact nvB _) | (intro row h; cases h; done) | (simp; done)) | (refine .inr ⟨by simp [nvP, nvP.nvPs, nvD, nilS, errno], ?_⟩; first | (intro row h; rcases List.mem_singleton.1 h with rfl; exact nvB _) | (intro row h; cases h; done) | (simp [nvRow, nvD, nvP]; done))) ?_
    have hl0 := leb_ten x.log.length (by have := R.ll; omega)
    have hlog := logB_len R h
    have hb14 := hbl 14
    simp only [List.length_map, am, simprocAttr, tys]
    refine ALoopW.intro 78 0 (ι := { i : Nat // i ≤ x.log.length }) (fun i => [(1, .ptr 0 0), (4, .own 1), (49, .d (.sl 7 (x.log.map encE))), (50, int x.log.length), (51, int i.1)]) (fun i => [.box ((encN x).map .d), .own 1 ((headB x 14 ++ leb x.log.length ++ fl putE (x.log.take i.1)).map encB)]) (fun i => x.log.length - i.1) ⟨0, by omega⟩ [] [0, 3] ?_ (fun ⟨i, hi⟩ => ?_)
    · refine ⟨rfl, rfl, by simp, (fun i hi => absurd hi (Nat.not_lt_zero _)), ⟨.inr rfl, .inr rfl, .inr rfl, .inr rfl, .inr rfl, trivial⟩, ⟨.inr ⟨by decide, ?_⟩, .inr ⟨by decide, ?_⟩, trivial⟩, rfl, by decide, rfl, (by first | rfl | simp [scRow, tkC_scs])⟩
      · rfl
      · simp only [List.take_zero, fl_nil, List.append_nil]; rfl
    simp only
    rcases Nat.lt_or_ge i x.log.length with hlt | hge
    · have hb : x.log[i]? = some x.log[i] := List.getElem?_eq_getElem hlt
      have hltI : ((i : Int) < x.log.length) := by omega
      have e1 : IntKind.i64.wrap ((i : Int) + 1) = ((i + 1 : Nat) : Int) := by rw [IntWalk.i64_in _ (by have := h.hl; omega)]; simp
      obtain ⟨q1, q2, q3, q4, q5⟩ := R.e x.log[i] (List.getElem_mem hlt)
      have fe := h.he x.log[i] (List.getElem_mem hlt)
      have cP := opPut x.log[i].2.2.1 fe.2.2 q5
      have hpl := putO_len fe.2.2 q5
      have w1 := w64 x.log[i].1 ⟨q1, by omega⟩
      have w2 := w64 x.log[i].2.1 ⟨by omega, q4⟩
      have g1 := lebt x.log[i].1 ⟨q1, by omega⟩
      have g2 := lebt x.log[i].2.1 ⟨by omega, q4⟩
      have hs := logB_succ x i hlt
      have hli := hlog i
      simp only [encO] at cP
      have q := octsPut (headB x 14 ++ leb x.log.length ++ fl putE (x.log.take i)) x.log[i].1.toNat (by simp only [List.length_append]; omega) (by omega)
      have qq := octsPut (headB x 14 ++ leb x.log.length ++ fl putE (x.log.take i) ++ leb x.log[i].1.toNat) x.log[i].2.1.toNat (by simp only [List.length_append]; omega) (by omega)
      have eb : headB x 14 ++ leb x.log.length ++ fl putE (x.log.take i) ++ leb x.log[i].1.toNat ++ leb x.log[i].2.1.toNat ++ putO x.log[i].2.2.1 = headB x 14 ++ leb x.log.length ++ fl putE (x.log.take (i + 1)) := by
        rw [← hs, putE]; simp
      simp only [int, encN, encE, hb, hltI, Int.natCast_nonneg, Int.toNat_natCast, List.map_cons, List.map_nil, am, simprocAttr, tys]
      refine ACall.of (cP) [] [] rfl (by simp) (by simp) (by simp) (by repeat' (first | exact trivial | exact .inl rfl | exact .inr rfl | exact .inr ⟨rfl, rfl, rfl, by simp; done⟩ | exact .inr ⟨rfl, by simp; done⟩ | exact .inr ⟨rfl, rfl, by simp; done⟩ | apply And.intro)) (by repeat' (first | exact trivial | rfl | exact (tkC_ren.1 _ _).symm | (simp; done) | apply And.intro)) (by first | exact .inl rfl | (refine .inr ⟨trivial, ?_⟩; first | (intro row h; rcases List.mem_singleton.1 h with rfl; exact nvB _) | (intro row h; cases h; done) | (simp; done)) | (refine .inr ⟨by simp [nvP, nvP.nvPs, nvD, nilS, errno], ?_⟩; first | (intro row h; rcases List.mem_singleton.1 h with rfl; exact nvB _) | (intro row h; cases h; done) | (simp [nvRow, nvD, nvP]; done))) ?_
      simp only [errno, w1, am, simprocAttr, tys]
      refine ACallD.of (q) (by kernel_rfl) [] [1] rfl (by simp) (by simp) (by simp) (by simp) (by repeat' (first | exact trivial | exact .inl rfl | exact .inr rfl | exact .inr ⟨rfl, rfl, rfl, by simp; done⟩ | exact .inr ⟨rfl, by simp; done⟩ | exact .inr ⟨rfl, rfl, by simp; done⟩ | apply And.intro)) (by repeat' (first | exact trivial | rfl | exact (tkC_ren.1 _ _).symm | (simp; done) | apply And.intro)) (by first | exact .inl rfl | (refine .inr ⟨trivial, ?_⟩; first | (intro row h; rcases List.mem_singleton.1 h with rfl; exact nvB _) | (intro row h; cases h; done) | (simp; done)) | (refine .inr ⟨by simp [nvP, nvP.nvPs, nvD, nilS, errno], ?_⟩; first | (intro row h; rcases List.mem_singleton.1 h with rfl; exact nvB _) | (intro row h; cases h; done) | (simp [nvRow, nvD, nvP]; done))) rfl rfl rfl rfl ?_
      simp only [w2, am, simprocAttr, tys]
      refine ACallD.of (qq) (by kernel_rfl) [] [260] rfl (by simp) (by simp) (by simp) (by simp) (by repeat' (first | exact trivial | exact .inl rfl | exact .inr rfl | exact .inr ⟨rfl, rfl, rfl, by simp; done⟩ | exact .inr ⟨rfl, by simp; done⟩ | exact .inr ⟨rfl, rfl, by simp; done⟩ | apply And.intro)) (by repeat' (first | exact trivial | rfl | exact (tkC_ren.1 _ _).symm | (simp; done) | apply And.intro)) (by first | exact .inl rfl | (refine .inr ⟨trivial, ?_⟩; first | (intro row h; rcases List.mem_singleton.1 h with rfl; exact nvB _) | (intro row h; cases h; done) | (simp; done)) | (refine .inr ⟨by simp [nvP, nvP.nvPs, nvD, nilS, errno], ?_⟩; first | (intro row h; rcases List.mem_singleton.1 h with rfl; exact nvB _) | (intro row h; cases h; done) | (simp [nvRow, nvD, nvP]; done))) rfl rfl rfl rfl ?_
      simp only [← List.map_append, List.length_map, eb, e1, am, simprocAttr, tys]
      refine ⟨by (try simp only [List.length_append]); omega, by kernel_rfl, ⟨i + 1, by omega⟩, [], [0, 644], ⟨rfl, rfl, by simp, (fun i hi => absurd hi (Nat.not_lt_zero _)), ⟨.inr rfl, .inr rfl, .inr rfl, .inr rfl, .inr rfl, trivial⟩, ⟨.inr ⟨by decide, ?_⟩, .inr ⟨by decide, ?_⟩, trivial⟩, rfl, by decide, rfl, (by first | rfl | simp [scRow, tkC_scs])⟩, by show x.log.length - (i + 1) < x.log.length - i; omega⟩
      · rfl
      · rfl
    · have hltI : ¬ ((i : Int) < x.log.length) := by omega
      have hli := hlog i
      have eb : headB x 14 ++ leb x.log.length ++ fl putE (x.log.take i) = bodyN x := by rw [List.take_of_length_le hge]; rfl
      have ebl : (bodyN x).length ≤ 1000000 := by rw [← eb]; simp only [List.length_append]; omega
      simp only [int, encN, hltI, eb, List.map_cons, List.map_nil, am, simprocAttr, tys]
      refine ACall.of (sealPut (bodyN x) (by omega)) [] [1] rfl (by simp) (by simp) (by simp) (by repeat' (first | exact trivial | exact .inl rfl | exact .inr rfl | exact .inr ⟨rfl, rfl, rfl, by simp; done⟩ | exact .inr ⟨rfl, by simp; done⟩ | exact .inr ⟨rfl, rfl, by simp; done⟩ | apply And.intro)) (by repeat' (first | exact trivial | rfl | exact (tkC_ren.1 _ _).symm | (simp; done) | apply And.intro)) (by first | exact .inl rfl | (refine .inr ⟨trivial, ?_⟩; first | (intro row h; rcases List.mem_singleton.1 h with rfl; exact nvB _) | (intro row h; cases h; done) | (simp; done)) | (refine .inr ⟨by simp [nvP, nvP.nvPs, nvD, nilS, errno], ?_⟩; first | (intro row h; rcases List.mem_singleton.1 h with rfl; exact nvB _) | (intro row h; cases h; done) | (simp [nvRow, nvD, nvP]; done))) ?_
      simp only [errno, FinR, evRes, evRVs, evRV, am, simprocAttr, tys]
      exact ⟨_, [], [2], rfl, ⟨rfl, rfl, by simp, (fun i hi => absurd hi (Nat.not_lt_zero _)), trivial, ⟨.inr ⟨by decide, rfl⟩, trivial⟩, rfl, by decide, rfl, (by first | rfl | simp [scRow, tkC_scs])⟩, rfl, rfl⟩
end Go.Proofs.Ytflpphgccjlkjaa

set_option linter.unusedSimpArgs false
set_option linter.unusedVariables false
namespace Go.Proofs.Ytflpphgccjlkjaa
open Go Go.AM

/-- the bytes that were put so, and those behind -/
def takeSeal (bs : List UInt8) : Option (List UInt8 × List UInt8) :=
  match takeNum bs with
  | none => none
  | some (n, r) => if n + 4 ≤ r.length ∧ (r.drop n).take 4 = be32 (crc (leb n ++ r.take n)) then some (r.take n, r.drop (n + 4)) else none
def takeR : Option (List UInt8 × List UInt8) → PV
  | none => .tup [nilS, nilS, errno 6]
  | some (x, r) => .tup [byts x, byts r, errno 0]

theorem be32_enc (x : BitVec 32) : [DV.lit (.int .u8 ((x >>> 24).setWidth 8).toNat)] :: [DV.lit (.int .u8 ((x >>> 16).setWidth 8).toNat)] :: [DV.lit (.int .u8 ((x >>> 8).setWidth 8).toNat)] :: [DV.lit (.int .u8 (x.setWidth 8).toNat)] :: [] = (be32 x).map encB := rfl

set_option maxRecDepth 8000 in
theorem sealTake (b : List UInt8) (hl : b.length ≤ 100000000) : AFun Try.prog 38 [byts b] [] (takeR (takeSeal b)) [] := by
  refine AFun.of_walk hP Try.func38 rfl rfl rfl (by simp) rfl ?_
  simp only [Try.f38, am, simprocAttr, tys]
  refine ACall.of (octsNew b (by omega)) [] [] rfl (by simp) (by simp) (by simp) (by repeat' (first | exact trivial | exact .inl rfl | exact .inr rfl | exact .inr ⟨rfl, rfl, rfl, by simp; done⟩ | exact .inr ⟨rfl, by simp; done⟩ | exact .inr ⟨rfl, rfl, by simp; done⟩ | apply And.intro)) (by repeat' (first | exact trivial | rfl | exact (tkC_ren.1 _ _).symm | (simp; done) | apply And.intro)) (by first | exact .inl rfl | (refine .inr ⟨trivial, ?_⟩; first | (intro row h; rcases List.mem_singleton.1 h with rfl; exact nvB _) | (intro row h; cases h; done) | (simp; done)) | (refine .inr ⟨by simp [nvP, nvP.nvPs, nvD, nilS, errno], ?_⟩; first | (intro row h; rcases List.mem_singleton.1 h with rfl; exact nvB _) | (intro row h; cases h; done) | (simp [nvRow, nvD, nvP]; done))) ?_
  simp only [tkC_ren, am, simprocAttr, tys]
  refine ACall.of (tkNum (some b) (by intro bs h; cases h; omega)) [0] [] rfl (by simp) (by simp) (by simp) (by repeat' (first | exact trivial | exact .inl rfl | exact .inr rfl | exact .inr ⟨rfl, rfl, rfl, by simp; done⟩ | exact .inr ⟨rfl, by simp; done⟩ | exact .inr ⟨rfl, rfl, by simp; done⟩ | apply And.intro)) (by repeat' (first | exact trivial | rfl | exact (tkC_ren.1 _ _).symm | (simp; done) | apply And.intro)) (by first | exact .inl rfl | (refine .inr ⟨trivial, ?_⟩; first | (intro row h; rcases List.mem_singleton.1 h with rfl; exact nvB _) | (intro row h; cases h; done) | (simp; done)) | (refine .inr ⟨by simp [nvP, nvP.nvPs, nvD, nilS, errno], ?_⟩; first | (intro row h; rcases List.mem_singleton.1 h with rfl; exact nvB _) | (intro row h; cases h; done) | (simp [nvRow, nvD, nvP]; done))) ?_
  simp only [tkC_ren, am, simprocAttr, tys]
  rcases hk : takeNum b with _ | ⟨n, r⟩
  · have ht : takeSeal b = none := by unfold takeSeal; rw [hk]
    refine ACall.of (tkLeft (numT (some b)).2) [0] [] rfl (by simp) (by simp) (by simp) (by repeat' (first | exact trivial | exact .inl rfl | exact .inr rfl | exact .inr ⟨rfl, rfl, rfl, by simp; done⟩ | exact .inr ⟨rfl, by simp; done⟩ | exact .inr ⟨rfl, rfl, by simp; done⟩ | apply And.intro)) (by repeat' (first | exact trivial | rfl | exact (tkC_ren.1 _ _).symm | (simp; done) | apply And.intro)) (by first | exact .inl rfl | (refine .inr ⟨trivial, ?_⟩; first | (intro row h; rcases List.mem_singleton.1 h with rfl; exact nvB _) | (intro row h; cases h; done) | (simp; done)) | (refine .inr ⟨by simp [nvP, nvP.nvPs, nvD, nilS, errno], ?_⟩; first | (intro row h; rcases List.mem_singleton.1 h with rfl; exact nvB _) | (intro row h; cases h; done) | (simp [nvRow, nvD, nvP]; done))) ?_
    simp only [ht, takeR, numT, hk, tkC_ren, leftT, int, u64, FinR, evRes, evRVs, evRV, am, simprocAttr, tys]
    exact ⟨_, [], [], rfl, Ent.plain rfl rfl rfl trivial rfl, rfl, rfl⟩
  · obtain ⟨g4, g5⟩ := takeNum_some hk
    have g6 := leb_pos n
    have g7 := leb_ten n g4
    have gl : b.length = (leb n).length + r.length := by rw [g5]; simp
    refine ACall.of (tkLeft (numT (some b)).2) [0] [] rfl (by simp) (by simp) (by simp) (by repeat' (first | exact trivial | exact .inl rfl | exact .inr rfl | exact .inr ⟨rfl, rfl, rfl, by simp; done⟩ | exact .inr ⟨rfl, by simp; done⟩ | exact .inr ⟨rfl, rfl, by simp; done⟩ | apply And.intro)) (by repeat' (first | exact trivial | rfl | exact (tkC_ren.1 _ _).symm | (simp; done) | apply And.intro)) (by first | exact .inl rfl | (refine .inr ⟨trivial, ?_⟩; first | (intro row h; rcases List.mem_singleton.1 h with rfl; exact nvB _) | (intro row h; cases h; done) | (simp; done)) | (refine .inr ⟨by simp [nvP, nvP.nvPs, nvD, nilS, errno], ?_⟩; first | (intro row h; rcases List.mem_singleton.1 h with rfl; exact nvB _) | (intro row h; cases h; done) | (simp [nvRow, nvD, nvP]; done))) ?_
    rcases Nat.lt_or_ge r.length 4 with h4 | h4
    · have h4I : ((r.length : Int) < 4) := by omega
      have ht : takeSeal b = none := by
        unfold takeSeal; rw [hk]
        simp only
        rw [if_neg (by omega)]
      simp only [ht, takeR, numT, hk, tkC_ren, leftT, int, u64, h4I, FinR, evRes, evRVs, evRV, am, simprocAttr, tys]
      exact ⟨_, [], [], rfl, Ent.plain rfl rfl rfl trivial rfl, rfl, rfl⟩
    · have h4I : ¬ ((r.length : Int) < 4) := by omega
      have w1 : IntKind.i64.wrap ((r.length : Int) - 4) = ((r.length - 4 : Nat) : Int) := by rw [IntWalk.i64_in _ (by omega)]; omega
      have w2 : IntKind.u64.wrap ((r.length - 4 : Nat) : Int) = ((r.length - 4 : Nat) : Int) := IntWalk.u64_in _ (by omega)
      simp only [numT, hk, tkC_ren, leftT, int, u64, h4I, am, simprocAttr, tys]
      refine ACall.of (tkLeft (some r)) [0] [] rfl (by simp) (by simp) (by simp) (by repeat' (first | exact trivial | exact .inl rfl | exact .inr rfl | exact .inr ⟨rfl, rfl, rfl, by simp; done⟩ | exact .inr ⟨rfl, by simp; done⟩ | exact .inr ⟨rfl, rfl, by simp; done⟩ | apply And.intro)) (by repeat' (first | exact trivial | rfl | exact (tkC_ren.1 _ _).symm | (simp; done) | apply And.intro)) (by first | exact .inl rfl | (refine .inr ⟨trivial, ?_⟩; first | (intro row h; rcases List.mem_singleton.1 h with rfl; exact nvB _) | (intro row h; cases h; done) | (simp; done)) | (refine .inr ⟨by simp [nvP, nvP.nvPs, nvD, nilS, errno], ?_⟩; first | (intro row h; rcases List.mem_singleton.1 h with rfl; exact nvB _) | (intro row h; cases h; done) | (simp [nvRow, nvD, nvP]; done))) ?_
      rcases Nat.lt_or_ge (r.length - 4) n with hn | hn
      · have hnI : (((r.length - 4 : Nat) : Int) < (n : Int)) := by omega
        have ht : takeSeal b = none := by
          unfold takeSeal; rw [hk]
          simp only
          rw [if_neg (by omega)]
        simp only [ht, takeR, tkC_ren, leftT, int, w1, w2, hnI, FinR, evRes, evRVs, evRV, am, simprocAttr, tys]
        exact ⟨_, [], [], rfl, Ent.plain rfl rfl rfl trivial rfl, rfl, rfl⟩
      · have hnI : ¬ (((r.length - 4 : Nat) : Int) < (n : Int)) := by omega
        simp only [byts, tkC_ren, leftT, int, w1, w2, hnI, am, simprocAttr, tys]
        refine ACall.of (tkLeft (some r)) [0] [] rfl (by simp) (by simp) (by simp) (by repeat' (first | exact trivial | exact .inl rfl | exact .inr rfl | exact .inr ⟨rfl, rfl, rfl, by simp; done⟩ | exact .inr ⟨rfl, by simp; done⟩ | exact .inr ⟨rfl, rfl, by simp; done⟩ | apply And.intro)) (by repeat' (first | exact trivial | rfl | exact (tkC_ren.1 _ _).symm | (simp; done) | apply And.intro)) (by first | exact .inl rfl | (refine .inr ⟨trivial, ?_⟩; first | (intro row h; rcases List.mem_singleton.1 h with rfl; exact nvB _) | (intro row h; cases h; done) | (simp; done)) | (refine .inr ⟨by simp [nvP, nvP.nvPs, nvD, nilS, errno], ?_⟩; first | (intro row h; rcases List.mem_singleton.1 h with rfl; exact nvB _) | (intro row h; cases h; done) | (simp [nvRow, nvD, nvP]; done))) ?_
        have w3 : IntKind.i64.wrap ((b.length : Int) - r.length) = (((leb n).length : Nat) : Int) := by rw [IntWalk.i64_in _ (by omega)]; omega
        have w4 : IntKind.i64.wrap (n : Int) = n := IntWalk.i64_in _ (by omega)
        have w5 : IntKind.i64.wrap ((((leb n).length : Nat) : Int) + (n : Int)) = (((leb n).length + n : Nat) : Int) := by rw [IntWalk.i64_in _ (by omega)]; omega
        have w6 : IntKind.i64.wrap ((((leb n).length + n : Nat) : Int) + 4) = (((leb n).length + n + 4 : Nat) : Int) := by rw [IntWalk.i64_in _ (by omega)]; omega
        have t1 : b.take ((leb n).length + n) = leb n ++ r.take n := by rw [g5, List.take_length_add_append]
        have t2 : ∀ k, b.drop ((leb n).length + k) = r.drop k := fun k => by rw [g5, List.drop_length_add_append]
        simp only [byts, tkC_ren, leftT, int, w3, w4, w5, Int.natCast_nonneg, ← List.map_take, List.drop_zero, t1, am, simprocAttr, tys]
        refine ⟨by omega, ?_⟩
        refine ACall.of (sealSum (leb n ++ r.take n) (by simp; omega)) [] [] rfl (by simp) (by simp) (by simp) (by repeat' (first | exact trivial | exact .inl rfl | exact .inr rfl | exact .inr ⟨rfl, rfl, rfl, by simp; done⟩ | exact .inr ⟨rfl, by simp; done⟩ | exact .inr ⟨rfl, rfl, by simp; done⟩ | apply And.intro)) (by repeat' (first | exact trivial | rfl | exact (tkC_ren.1 _ _).symm | (simp; done) | apply And.intro)) (by first | exact .inl rfl | (refine .inr ⟨trivial, ?_⟩; first | (intro row h; rcases List.mem_singleton.1 h with rfl; exact nvB _) | (intro row h; cases h; done) | (simp; done)) | (refine .inr ⟨by simp [nvP, nvP.nvPs, nvD, nilS, errno], ?_⟩; first | (intro row h; rcases List.mem_singleton.1 h with rfl; exact nvB _) | (intro row h; cases h; done) | (simp [nvRow, nvD, nvP]; done))) ?_
        simp only [w32, sr32, c32_8, w6, Int.natCast_nonneg, Int.toNat_natCast, ← List.map_take, ← List.map_drop, strOf_encB, bl_toList, be32_enc, am, simprocAttr, tys]
        have t3 : (b.take ((leb n).length + n + 4)).drop ((leb n).length + n) = (r.drop n).take 4 := by
          rw [List.drop_take, show (leb n).length + n + 4 - ((leb n).length + n) = 4 from by omega, t2]
        rw [t3]
        refine ⟨by omega, by kernel_rfl, ?_⟩
        rcases hq : ((r.drop n).take 4 == be32 (crc (leb n ++ r.take n))) with _ | _
        · have ht : takeSeal b = none := by
            unfold takeSeal; rw [hk]
            simp only
            rw [if_neg (fun h => by rw [beq_eq_false_iff_ne] at hq; exact hq h.2)]
          simp only [ht, takeR, FinR, evRes, evRVs, evRV, am, simprocAttr, tys]
          exact ⟨_, [], [], rfl, Ent.plain rfl rfl rfl trivial rfl, rfl, rfl⟩
        · have ht : takeSeal b = some (r.take n, r.drop (n + 4)) := by
            unfold takeSeal; rw [hk]
            simp only
            rw [if_pos ⟨by omega, eq_of_beq hq⟩]
          have t4 : (b.take ((leb n).length + n)).drop (leb n).length = r.take n := by rw [t1]; simp
          have t5 : b.drop ((leb n).length + n + 4) = r.drop (n + 4) := by rw [Nat.add_assoc, t2]
          simp only [ht, takeR, w6, Int.natCast_nonneg, Int.toNat_natCast, ← List.map_take, ← List.map_drop, t4, t5, List.take_length, FinR, evRes, evRVs, evRV, am, simprocAttr, tys]
          have l1 : (r.take n).length ≤ r.length := by simp; omega
          have l2 : (r.drop (n + 4)).length ≤ r.length := by simp
          refine ⟨by omega, by omega, by omega, by omega, by kernel_rfl, ?_⟩
          exact ⟨_, [1601, 1985], [], rfl, ⟨rfl, rfl, by simp, (fun i hi => absurd hi (Nat.not_lt_zero _)), trivial, trivial, rfl, by decide, rfl, (by first | rfl | simp [scRow, tkC_scs])⟩, rfl, rfl⟩
end Go.Proofs.Ytflpphgccjlkjaa

set_option linter.unusedSimpArgs false
set_option linter.unusedVariables false
namespace Go.Proofs.Ytflpphgccjlkjaa
open Go Go.AM

theorem takeSeal_sealed (x r : List UInt8) (h : x.length < 18446744073709551616) : takeSeal (sealed x ++ r) = some (x, r) := by
  unfold takeSeal sealed
  rw [List.append_assoc, List.append_assoc, takeNum_leb _ _ h]
  have l4 : (be32 (crc (leb x.length ++ x))).length = 4 := rfl
  have e1 : (x ++ (be32 (crc (leb x.length ++ x)) ++ r)).take x.length = x := by simp
  have e2 : ((x ++ (be32 (crc (leb x.length ++ x)) ++ r)).drop x.length).take 4 = be32 (crc (leb x.length ++ x)) := by
    rw [List.drop_left]
    rw [← l4]; simp
  have e3 : (x ++ (be32 (crc (leb x.length ++ x)) ++ r)).drop (x.length + 4) = r := by
    rw [List.drop_length_add_append, ← l4]; simp
  simp only [e1, e2, e3, and_true]
  rw [if_pos (by simp [l4])]

theorem takeSeal_some {b x r : List UInt8} (h : takeSeal b = some (x, r)) : b = sealed x ++ r ∧ x.length < 18446744073709551616 := by
  unfold takeSeal at h
  split at h
  · cases h
  · rename_i n s hk
    obtain ⟨g1, g2⟩ := takeNum_some hk
    split at h
    · rename_i hc
      simp only [Option.some.injEq, Prod.mk.injEq] at h
      obtain ⟨rfl, rfl⟩ := h
      have hx : (s.take n).length = n := by rw [List.length_take]; omega
      refine ⟨?_, by rw [hx]; exact g1⟩
      unfold sealed
      rw [hx, ← hc.2, g2, List.append_assoc, List.append_assoc, List.append_cancel_left_eq]
      rw [Nat.add_comm n 4, ← List.drop_drop, List.drop_drop, Nat.add_comm 4 n, ← List.drop_drop, List.take_append_drop, List.take_append_drop]
    · cases h

theorem takeSeal_cut (x : List UInt8) (k : Nat) (hx : x.length < 18446744073709551616) (hk : k < (sealed x).length) : takeSeal ((sealed x).take k) = none := by
  rcases h : takeSeal ((sealed x).take k) with _ | ⟨y, r⟩
  · rfl
  · exfalso
    obtain ⟨h1, h2⟩ := takeSeal_some h
    have e : sealed x ++ [] = sealed y ++ (r ++ (sealed x).drop k) := by
      rw [← List.append_assoc, ← h1, List.take_append_drop, List.append_nil]
    have g1 := takeSeal_sealed x [] hx
    rw [e, takeSeal_sealed y _ h2] at g1
    simp only [Option.some.injEq, Prod.mk.injEq] at g1
    have := congrArg List.length g1.2
    simp at this
    omega
end Go.Proofs.Ytflpphgccjlkjaa

set_option linter.unusedSimpArgs false
set_option linter.unusedVariables false
namespace Go.Proofs.Ytflpphgccjlkjaa
open Go Go.AM

/-! ## the note that bytes are -/
def numI (u : Nat) : Int := IntKind.i64.wrap u
def takeE (b : List UInt8) : Option (EntT × List UInt8) := match takeNum b with
  | none => none
  | some (c, r1) => match takeNum r1 with
    | none => none
    | some (q, r2) => match takeO r2 with
      | none => none
      | some (o, r3) => some ((numI c, numI q, o, ()), r3)
def tS (r : List UInt8) : Nat → Tk
  | 0 => some r
  | i + 1 => (numT (tS r i)).2
def uS (r : List UInt8) (i : Nat) : Nat := (numT (tS r i)).1
def mkN (k : UInt8) (r : List UInt8) (l : List EntT) : NT := ⟨k, numI (uS r 0), numI (uS r 1), numI (uS r 2), numI (uS r 3), numI (uS r 4), numI (uS r 5), uS r 6 == 1, numI (uS r 7), numI (uS r 8), numI (uS r 9), numI (uS r 10), numI (uS r 11), numI (uS r 12), numI (uS r 13), l⟩
def takeB (k : UInt8) (r : List UInt8) : Option NT :=
  if 1 < uS r 6 then none else if 300 < uS r 14 then none else match tS r 15 with
    | none => none
    | some q => match decN takeE (uS r 14) q with
      | some (l, []) => if rightN (mkN k r l) = true then some (mkN k r l) else none
      | _ => none
def takeN (b : List UInt8) : Option NT := match takeSeal b with
  | some (k :: r, []) => takeB k r
  | _ => none

theorem numI_I64 (u : Nat) : I64 (numI u) := by
  unfold numI I64
  rw [IntKind.wrap_i64]; omega
theorem numI_of (u : Nat) (hu : u < 18446744073709551616) (h : 0 ≤ numI u) : (numI u).toNat = u := by
  unfold numI at *
  rw [IntKind.wrap_i64] at *; omega
theorem numI_nat (n : Int) (h : 0 ≤ n ∧ n ≤ 1099511627776) : numI n.toNat = n := by
  unfold numI
  rw [IntKind.wrap_i64]; omega
theorem takeE_some {b : List UInt8} {e : EntT} {r : List UInt8} (h : takeE b = some (e, r)) : FitE e ∧ r.length ≤ b.length ∧ (mayE e = true → b = putE e ++ r) := by
  unfold takeE at h
  split at h
  · cases h
  · rename_i c r1 h1
    split at h
    · cases h
    · rename_i q r2 h2
      split at h
      · cases h
      · rename_i o r3 h3
        simp only [Option.some.injEq, Prod.mk.injEq] at h
        obtain ⟨rfl, rfl⟩ := h
        obtain ⟨a1, a2⟩ := takeNum_some h1
        obtain ⟨b1, b2⟩ := takeNum_some h2
        obtain ⟨c1, c2, c3⟩ := takeO_some h3
        refine ⟨⟨numI_I64 _, numI_I64 _, c3⟩, ?_, fun hm => ?_⟩
        · rw [a2, b2, c2]; simp; omega
        · unfold mayE at hm
          simp only [Bool.and_eq_true, decide_eq_true_eq] at hm
          obtain ⟨d1, d2, d3, d4⟩ := hm
          have d3 := fitsB_mem d3 _ (List.mem_singleton.2 rfl)
          unfold putE
          simp only
          rw [numI_of c a1 d1, numI_of q b1 (by omega), List.append_assoc, List.append_assoc, ← c2, ← b2]; exact a2
theorem takeE_put (e : EntT) (he : FitE e) (h : mayE e = true) (r : List UInt8) : takeE (putE e ++ r) = some (e, r) := by
  unfold mayE at h
  simp only [Bool.and_eq_true, decide_eq_true_eq] at h
  obtain ⟨d1, d2, d3, d4⟩ := h
  have d3 := fitsB_mem d3 _ (List.mem_singleton.2 rfl)
  unfold takeE putE
  rw [List.append_assoc, List.append_assoc, takeNum_leb _ _ (by omega)]
  simp only
  rw [takeNum_leb _ _ (by omega)]
  simp only [takeO_put _ he.2.2 d4, numI_nat e.1 ⟨d1, by omega⟩, numI_nat e.2.1 ⟨by omega, d3.2⟩]

theorem decN_snoc {α : Type} (dec : List UInt8 → Option (α × List UInt8)) : ∀ (n : Nat) (b : List UInt8), decN dec (n + 1) b = match decN dec n b with
    | none => none
    | some (l, r) => match dec r with
      | none => none
      | some (x, r') => some (l ++ [x], r')
  | 0, b => by
    simp only [decN]
    rcases dec b with _ | ⟨x, r⟩ <;> rfl
  | n + 1, b => by
    rw [decN]
    conv => rhs; rw [decN]
    rcases dec b with _ | ⟨x, r⟩
    · rfl
    · simp only
      rw [decN_snoc dec n r]
      rcases decN dec n r with _ | ⟨l, r'⟩
      · rfl
      · simp only
        rcases dec r' with _ | ⟨y, r''⟩ <;> rfl
theorem decN_none {α : Type} (dec : List UInt8 → Option (α × List UInt8)) {n : Nat} {b : List UInt8} (h : decN dec n b = none) : ∀ k, decN dec (n + k) b = none
  | 0 => h
  | k + 1 => by rw [← Nat.add_assoc, decN_snoc, decN_none dec h k]
theorem decE_some : ∀ (n : Nat) (b : List UInt8) (l : List EntT) (r : List UInt8), decN takeE n b = some (l, r) → l.length = n ∧ r.length ≤ b.length ∧ (∀ e ∈ l, FitE e) ∧ (l.all mayE = true → b = fl putE l ++ r)
  | 0, b, l, r, h => by
    simp only [decN, Option.some.injEq, Prod.mk.injEq] at h
    obtain ⟨rfl, rfl⟩ := h
    exact ⟨rfl, Nat.le_refl _, by simp, fun _ => rfl⟩
  | n + 1, b, l, r, h => by
    simp only [decN] at h
    split at h
    · cases h
    · rename_i x r1 hx
      split at h
      · cases h
      · rename_i l1 r2 hl
        simp only [Option.some.injEq, Prod.mk.injEq] at h
        obtain ⟨rfl, rfl⟩ := h
        obtain ⟨e1, e2, e3, e4⟩ := decE_some n r1 l1 r2 hl
        obtain ⟨x1, x2, x3⟩ := takeE_some hx
        refine ⟨by simp [e1], by omega, fun e he => ?_, fun hm => ?_⟩
        · rcases List.mem_cons.1 he with rfl | he
          · exact x1
          · exact e3 e he
        · simp only [List.all_cons, Bool.and_eq_true] at hm
          rw [fl_cons, List.append_assoc, ← e4 hm.2]
          exact x3 hm.1

theorem tS_step {r q : List UInt8} {i : Nat} (h : tS r (i + 1) = some q) : uS r i < 18446744073709551616 ∧ tS r i = some (leb (uS r i) ++ q) := numT_some h
theorem mkN_fit (k : UInt8) (r : List UInt8) {l : List EntT} (hl : l.length ≤ 9223372036854775807) (he : ∀ e ∈ l, FitE e) : FitN (mkN k r l) := ⟨hl, he⟩

theorem takeB_some {k : UInt8} {r : List UInt8} {x : NT} (h : takeB k r = some x) : rightN x = true ∧ FitN x ∧ k :: r = bodyN x := by
  unfold takeB at h
  split at h
  · cases h
  rename_i h6
  split at h
  · cases h
  rename_i h14
  split at h
  · cases h
  rename_i q hq
  split at h
  · rename_i l hd
    split at h
    · rename_i hr
      simp only [Option.some.injEq] at h
      subst h
      obtain ⟨d1, d2, d3, d4⟩ := decE_some _ _ _ _ hd
      have hall : l.all mayE = true := by
        unfold rightN at hr
        simp only [Bool.and_eq_true] at hr
        exact hr.2.2
      have d4 := d4 hall
      rw [List.append_nil] at d4
      have R := rightN_of hr
      refine ⟨hr, mkN_fit k r (by omega) d3, ?_⟩
      obtain ⟨a14, b14⟩ := tS_step hq
      obtain ⟨a13, b13⟩ := tS_step b14
      obtain ⟨a12, b12⟩ := tS_step b13
      obtain ⟨a11, b11⟩ := tS_step b12
      obtain ⟨a10, b10⟩ := tS_step b11
      obtain ⟨a9, b9⟩ := tS_step b10
      obtain ⟨a8, b8⟩ := tS_step b9
      obtain ⟨a7, b7⟩ := tS_step b8
      obtain ⟨a6, b6⟩ := tS_step b7
      obtain ⟨a5, b5⟩ := tS_step b6
      obtain ⟨a4, b4⟩ := tS_step b5
      obtain ⟨a3, b3⟩ := tS_step b4
      obtain ⟨a2, b2⟩ := tS_step b3
      obtain ⟨a1, b1⟩ := tS_step b2
      obtain ⟨a0, b0⟩ := tS_step b1
      have b0 : some r = _ := b0
      simp only [Option.some.injEq] at b0
      have hld : leb (uS r 6) = [if (uS r 6 == 1) = true then 1 else 0] := by
        have : uS r 6 = 0 ∨ uS r 6 = 1 := by omega
        rcases this with e | e <;> (rw [e, leb, if_pos (by decide)]; rfl)
      unfold bodyN headB numB mkN
      simp only
      rw [numI_of _ a0 R.f.1, numI_of _ a1 R.t.1, numI_of _ a2 R.v.1, numI_of _ a3 R.n.1, numI_of _ a4 R.i.1, numI_of _ a5 R.s.1, numI_of _ a7 R.l0.1, numI_of _ a8 R.l1.1, numI_of _ a9 R.l2.1, numI_of _ a10 R.l3.1, numI_of _ a11 R.l4.1, numI_of _ a12 R.l5.1, numI_of _ a13 R.l6.1, ← hld, d1, ← d4]
      conv => lhs; rw [b0]
      simp
    · cases h
  · cases h

theorem tS_next {r q : List UInt8} {i n : Nat} (h : tS r i = some (leb n ++ q)) (hn : n < 18446744073709551616) : uS r i = n ∧ tS r (i + 1) = some q := by
  have e := numT_leb n q hn
  rw [← h] at e
  exact ⟨congrArg (·.1) e, congrArg (·.2) e⟩
theorem takeB_put {x : NT} (hr : rightN x = true) (hx : FitN x) {k : UInt8} {r : List UInt8} (h : k :: r = bodyN x) : takeB k r = some x := by
  have R := rightN_of hr
  have hall : x.log.all mayE = true := by
    unfold rightN at hr
    simp only [Bool.and_eq_true] at hr
    exact hr.2.2
  have hld : ([if x.ld then 1 else 0] : List UInt8) = leb (if x.ld then 1 else 0) := by
    rcases x.ld with _ | _
    · show ([0] : List UInt8) = leb 0
      rw [leb, if_pos (by decide)]; rfl
    · show ([1] : List UInt8) = leb 1
      rw [leb, if_pos (by decide)]; rfl
  have hl6 : (if x.ld then 1 else 0 : Nat) ≤ 1 := by rcases x.ld with _ | _ <;> decide
  obtain ⟨hk, hb⟩ : k = x.k ∧ r = leb x.f.toNat ++ (leb x.t.toNat ++ (leb x.v.toNat ++ (leb x.n.toNat ++ (leb x.i.toNat ++ (leb x.s.toNat ++ (leb (if x.ld then 1 else 0) ++ (leb x.l0.toNat ++ (leb x.l1.toNat ++ (leb x.l2.toNat ++ (leb x.l3.toNat ++ (leb x.l4.toNat ++ (leb x.l5.toNat ++ (leb x.l6.toNat ++ (leb x.log.length ++ fl putE x.log)))))))))))))) := by
    unfold bodyN headB numB at h
    rw [hld] at h
    simp only [List.take_succ_cons, List.take_zero, List.flatten_cons, List.flatten_nil, List.append_nil, List.cons_append, List.append_assoc, List.cons.injEq] at h
    exact h
  have t0 : tS r 0 = some r := rfl
  rw [hb] at t0
  rw [← hb] at t0
  have q0 : tS r 0 = some (leb x.f.toNat ++ (leb x.t.toNat ++ (leb x.v.toNat ++ (leb x.n.toNat ++ (leb x.i.toNat ++ (leb x.s.toNat ++ (leb (if x.ld then 1 else 0) ++ (leb x.l0.toNat ++ (leb x.l1.toNat ++ (leb x.l2.toNat ++ (leb x.l3.toNat ++ (leb x.l4.toNat ++ (leb x.l5.toNat ++ (leb x.l6.toNat ++ (leb x.log.length ++ fl putE x.log))))))))))))))) := congrArg some hb
  obtain ⟨u0', q1⟩ := tS_next q0 (by have := R.f; omega)
  obtain ⟨u1', q2⟩ := tS_next q1 (by have := R.t; omega)
  obtain ⟨u2', q3⟩ := tS_next q2 (by have := R.v; omega)
  obtain ⟨u3', q4⟩ := tS_next q3 (by have := R.n; omega)
  obtain ⟨u4', q5⟩ := tS_next q4 (by have := R.i; omega)
  obtain ⟨u5', q6⟩ := tS_next q5 (by have := R.s; omega)
  obtain ⟨u6', q7⟩ := tS_next q6 (by omega)
  obtain ⟨u7', q8⟩ := tS_next q7 (by have := R.l0; omega)
  obtain ⟨u8', q9⟩ := tS_next q8 (by have := R.l1; omega)
  obtain ⟨u9', q10⟩ := tS_next q9 (by have := R.l2; omega)
  obtain ⟨u10', q11⟩ := tS_next q10 (by have := R.l3; omega)
  obtain ⟨u11', q12⟩ := tS_next q11 (by have := R.l4; omega)
  obtain ⟨u12', q13⟩ := tS_next q12 (by have := R.l5; omega)
  obtain ⟨u13', q14⟩ := tS_next q13 (by have := R.l6; omega)
  obtain ⟨u14', q15⟩ := tS_next q14 (by have := R.ll; omega)
  have u0 : uS r 0 = x.f.toNat := u0'
  have u1 : uS r 1 = x.t.toNat := u1'
  have u2 : uS r 2 = x.v.toNat := u2'
  have u3 : uS r 3 = x.n.toNat := u3'
  have u4 : uS r 4 = x.i.toNat := u4'
  have u5 : uS r 5 = x.s.toNat := u5'
  have u6 : uS r 6 = (if x.ld then 1 else 0) := u6'
  have u7 : uS r 7 = x.l0.toNat := u7'
  have u8 : uS r 8 = x.l1.toNat := u8'
  have u9 : uS r 9 = x.l2.toNat := u9'
  have u10 : uS r 10 = x.l3.toNat := u10'
  have u11 : uS r 11 = x.l4.toNat := u11'
  have u12 : uS r 12 = x.l5.toNat := u12'
  have u13 : uS r 13 = x.l6.toNat := u13'
  have u14 : uS r 14 = x.log.length := u14'
  have q15 : tS r 15 = some (fl putE x.log) := q15
  have hm : mkN k r x.log = x := by
    unfold mkN
    rw [u0, u1, u2, u3, u4, u5, u6, u7, u8, u9, u10, u11, u12, u13, hk]
    rw [numI_nat x.f ⟨R.f.1, by have := R.f.2; omega⟩, numI_nat x.t ⟨R.t.1, by have := R.t.2; omega⟩, numI_nat x.v R.v, numI_nat x.n R.n, numI_nat x.i R.i, numI_nat x.s R.s, numI_nat x.l0 R.l0, numI_nat x.l1 R.l1, numI_nat x.l2 R.l2, numI_nat x.l3 R.l3, numI_nat x.l4 R.l4, numI_nat x.l5 R.l5, numI_nat x.l6 R.l6]
    have : ((if x.ld then 1 else 0 : Nat) == 1) = x.ld := by rcases x.ld with _ | _ <;> rfl
    rw [this]
  have hd : decN takeE x.log.length (fl putE x.log) = some (x.log, []) := by
    have := decN_enc putE takeE x.log [] fun e he r => takeE_put e (hx.he e he) (List.all_eq_true.1 hall e he) r
    rwa [List.append_nil] at this
  unfold takeB
  rw [if_neg (by omega), if_neg (by have := R.ll; omega), q15]
  simp only
  rw [u14, hd]
  simp only [hm, hr, if_true]

theorem bodyN_cons (x : NT) : ∃ k r, k :: r = bodyN x := ⟨x.k, _, rfl⟩
theorem takeN_some {b : List UInt8} {x : NT} (h : takeN b = some x) : rightN x = true ∧ FitN x ∧ b = sealed (bodyN x) := by
  unfold takeN at h
  split at h
  · rename_i k r hs
    obtain ⟨h1, h2, h3⟩ := takeB_some h
    obtain ⟨g1, _⟩ := takeSeal_some hs
    rw [List.append_nil, h3] at g1
    exact ⟨h1, h2, g1⟩
  · cases h
theorem bodyN_len {x : NT} (hr : rightN x = true) (hx : FitN x) : (bodyN x).length ≤ 283000 := by
  have R := rightN_of hr
  have h1 := headB_len R 14
  have h2 := logB_len R hx x.log.length
  rw [List.take_length] at h2
  have h3 := leb_ten x.log.length (by have := R.ll; omega)
  unfold bodyN
  simp only [List.length_append]; omega
theorem takeN_put {x : NT} (hr : rightN x = true) (hx : FitN x) : takeN (sealed (bodyN x)) = some x := by
  have hl := bodyN_len hr hx
  have := takeSeal_sealed (bodyN x) [] (by omega)
  rw [List.append_nil] at this
  obtain ⟨k, r, hk⟩ := bodyN_cons x
  unfold takeN
  rw [this, ← hk]
  exact takeB_put hr hx hk
end Go.Proofs.Ytflpphgccjlkjaa

set_option linter.unusedSimpArgs false
set_option linter.unusedVariables false
namespace Go.Proofs.Ytflpphgccjlkjaa
open Go Go.AM

/-! ## bursts -/
def T (k : Nat) (s : BitVec 32) : BitVec 32 := Nat.repeat crcBit k s
theorem T_xor (k : Nat) (a b : BitVec 32) : T k (a ^^^ b) = T k a ^^^ T k b := rep_xor k a b

theorem T_add (m : Nat) (s : BitVec 32) : ∀ n, T (n + m) s = T n (T m s)
  | 0 => by simp [T, Nat.repeat]
  | n + 1 => by
    rw [show n + 1 + m = (n + m) + 1 from by omega]
    show crcBit (T (n + m) s) = crcBit (T n (T m s))
    rw [T_add m s n]
theorem crcBit_zero : crcBit 0#32 = 0#32 := by decide
theorem T_zero : ∀ k, T k 0#32 = 0#32
  | 0 => rfl
  | k + 1 => by show crcBit (T k 0#32) = _; rw [T_zero k, crcBit_zero]
theorem crcBit_inj (s : BitVec 32) (h : crcBit s = 0#32) : s = 0#32 := by
  rw [crcBit_msb] at h
  rcases hm : s.msb with _ | _
  · rw [hm] at h
    simp only [Bool.false_eq_true, if_false, BitVec.xor_zero] at h
    have h1 := congrArg BitVec.toNat h
    rw [BitVec.msb_eq_decide, decide_eq_false_iff_not] at hm
    have hs := s.isLt
    rw [BitVec.toNat_shiftLeft, Nat.shiftLeft_eq] at h1
    apply BitVec.eq_of_toNat_eq
    have e0 : (0#32).toNat = 0 := rfl
    rw [e0] at h1 ⊢
    omega
  · rw [hm] at h
    simp only [if_true] at h
    have h1 : s <<< 1 = 79764919#32 := by
      have := congrArg (· ^^^ 79764919#32) h
      simp only [BitVec.xor_assoc, BitVec.xor_self, BitVec.xor_zero, BitVec.zero_xor] at this
      exact this
    have h2 := congrArg BitVec.toNat h1
    rw [BitVec.toNat_shiftLeft, Nat.shiftLeft_eq] at h2
    have e0 : (79764919#32).toNat = 79764919 := rfl
    rw [e0] at h2
    omega
theorem T_inj (s : BitVec 32) : ∀ k, T k s = 0#32 → s = 0#32
  | 0, h => h
  | k + 1, h => T_inj s k (crcBit_inj _ h)

theorem crcBit_shr (x : BitVec 32) (k : Nat) (hk : k ≤ 31) (h : (x >>> k) <<< k = x) : T k (x >>> k) = x := by
  have key : ∀ j, j ≤ k → T j (x >>> k) = (x >>> k) <<< j := by
    intro j
    induction j with
    | zero => intro _; simp [T, Nat.repeat]
    | succ j ih =>
      intro hj
      show crcBit (T j (x >>> k)) = _
      rw [ih (by omega), crcBit_msb]
      have hm : ((x >>> k) <<< j).msb = false := by
        rw [BitVec.msb_eq_decide, decide_eq_false_iff_not, BitVec.toNat_shiftLeft, Nat.shiftLeft_eq, BitVec.toNat_ushiftRight, Nat.shiftRight_eq_div_pow]
        have hx := x.isLt
        have h1 : x.toNat / 2 ^ k < 2 ^ (32 - k) := by
          rw [Nat.div_lt_iff_lt_mul (Nat.pow_pos (by omega)), ← Nat.pow_add, show 32 - k + k = 32 from by omega]; exact hx
        have h2 : x.toNat / 2 ^ k * 2 ^ j < 2 ^ (32 - k) * 2 ^ j := Nat.mul_lt_mul_of_pos_right h1 (Nat.pow_pos (by omega))
        rw [← Nat.pow_add] at h2
        have h3 : 2 ^ (32 - k + j) ≤ 2 ^ 31 := Nat.pow_le_pow_right (by omega) (by omega)
        have h4 : x.toNat / 2 ^ k * 2 ^ j < 2 ^ 32 := Nat.lt_of_lt_of_le h2 (Nat.le_trans h3 (Nat.pow_le_pow_right (by omega) (by omega)))
        rw [Nat.mod_eq_of_lt h4]
        have : (32 - 1 : Nat) = 31 := rfl
        rw [this]; omega
      rw [hm]
      simp only [Bool.false_eq_true, if_false, BitVec.xor_zero]
      rw [← BitVec.shiftLeft_add]
  rw [key k (Nat.le_refl k), h]

theorem fold_lin (l : List UInt8) : ∀ (s t : BitVec 32), l.foldl crcByte (s ^^^ t) = l.foldl crcByte s ^^^ T (8 * l.length) t := by
  induction l with
  | nil => intro s t; rfl
  | cons b l ih =>
    intro s t
    simp only [List.foldl_cons, List.length_cons]
    have e : crcByte (s ^^^ t) b = crcByte s b ^^^ T 8 t := by
      show T 8 (s ^^^ t ^^^ emb b) = T 8 (s ^^^ emb b) ^^^ T 8 t
      rw [← T_xor, BitVec.xor_assoc, BitVec.xor_assoc, BitVec.xor_comm t]
    rw [e, ih, ← T_add, show 8 * l.length + 8 = 8 * (l.length + 1) from by omega]

def Phi (p : List UInt8) : BitVec 32 := p.foldl crcByte (BitVec.allOnes 32)

/-- four bytes as a number -/
def word (a b c d : UInt8) : BitVec 32 := emb a ^^^ (emb b >>> 8) ^^^ (emb c >>> 16) ^^^ (emb d >>> 24)
theorem fold4 (s : BitVec 32) (a b c d : UInt8) : [a, b, c, d].foldl crcByte s = T 32 (s ^^^ word a b c d) := by
  have sh : ∀ (x : UInt8) (k : Nat), k ≤ 24 → T k (emb x >>> k) = emb x := fun x k hk => by
    apply crcBit_shr _ _ (by omega)
    unfold emb
    apply BitVec.eq_of_toNat_eq
    have hx := x.toBitVec.isLt
    rw [BitVec.toNat_shiftLeft, BitVec.toNat_ushiftRight, BitVec.toNat_shiftLeft, BitVec.toNat_setWidth, Nat.shiftLeft_eq, Nat.shiftLeft_eq, Nat.shiftRight_eq_div_pow]
    have e0 : x.toBitVec.toNat % 2 ^ 32 = x.toBitVec.toNat := Nat.mod_eq_of_lt (by omega)
    rw [e0]
    have e1 : x.toBitVec.toNat * 2 ^ 24 < 2 ^ 32 := by omega
    rw [Nat.mod_eq_of_lt e1]
    have e2 : x.toBitVec.toNat * 2 ^ 24 = x.toBitVec.toNat * 2 ^ (24 - k) * 2 ^ k := by rw [Nat.mul_assoc, ← Nat.pow_add, show 24 - k + k = 24 from by omega]
    rw [e2, Nat.mul_div_cancel _ (Nat.pow_pos (by omega)), ← e2, Nat.mod_eq_of_lt e1]
  have step : ∀ (s : BitVec 32) (x : UInt8), crcByte s x = T 8 s ^^^ T 8 (emb x) := fun s x => T_xor 8 s (emb x)
  have a2 : ∀ x, T 8 (T 8 x) = T 16 x := fun x => (T_add 8 x 8).symm
  have a3 : ∀ x, T 8 (T 16 x) = T 24 x := fun x => (T_add 16 x 8).symm
  have a4 : ∀ x, T 8 (T 24 x) = T 32 x := fun x => (T_add 24 x 8).symm
  have y1 : T 32 (emb b >>> 8) = T 24 (emb b) := (T_add 8 (emb b >>> 8) 24).trans (by rw [sh b 8 (by omega)])
  have y2 : T 32 (emb c >>> 16) = T 16 (emb c) := (T_add 16 (emb c >>> 16) 16).trans (by rw [sh c 16 (by omega)])
  have y3 : T 32 (emb d >>> 24) = T 8 (emb d) := (T_add 24 (emb d >>> 24) 8).trans (by rw [sh d 24 (by omega)])
  simp only [List.foldl_cons, List.foldl_nil, step, word, T_xor, a2, a3, a4, y1, y2, y3, BitVec.xor_assoc]

theorem word_be32 (x : BitVec 32) : word ⟨(x >>> 24).setWidth 8⟩ ⟨(x >>> 16).setWidth 8⟩ ⟨(x >>> 8).setWidth 8⟩ ⟨x.setWidth 8⟩ = x := by
  unfold word emb
  apply BitVec.eq_of_getElem_eq
  intro i hi
  simp only [BitVec.getElem_xor, BitVec.getElem_shiftLeft, BitVec.getElem_ushiftRight, BitVec.getLsbD_shiftLeft, BitVec.getElem_setWidth, BitVec.getLsbD_setWidth, BitVec.getLsbD_ushiftRight]
  rcases (show i = 0 ∨ i = 1 ∨ i = 2 ∨ i = 3 ∨ i = 4 ∨ i = 5 ∨ i = 6 ∨ i = 7 ∨ i = 8 ∨ i = 9 ∨ i = 10 ∨ i = 11 ∨ i = 12 ∨ i = 13 ∨ i = 14 ∨ i = 15 ∨ i = 16 ∨ i = 17 ∨ i = 18 ∨ i = 19 ∨ i = 20 ∨ i = 21 ∨ i = 22 ∨ i = 23 ∨ i = 24 ∨ i = 25 ∨ i = 26 ∨ i = 27 ∨ i = 28 ∨ i = 29 ∨ i = 30 ∨ i = 31 by omega) with rfl | rfl | rfl | rfl | rfl | rfl | rfl | rfl | rfl | rfl | rfl | rfl | rfl | rfl | rfl | rfl | rfl | rfl | rfl | rfl | rfl | rfl | rfl | rfl | rfl | rfl | rfl | rfl | rfl | rfl | rfl | rfl <;> first | rfl | simp
def Rsd : BitVec 32 := T 32 (BitVec.allOnes 32)

theorem crc_rsd (m : List UInt8) (a b c d : UInt8) (h : [a, b, c, d] = be32 (crc m)) : Phi (m ++ [a, b, c, d]) = Rsd := by
  have e : Phi (m ++ [a, b, c, d]) = T 32 (Phi m ^^^ word a b c d) := by
    unfold Phi; rw [List.foldl_append, fold4]
  have ec : crc m = BitVec.allOnes 32 ^^^ Phi m := by
    show ~~~ Phi m = _
    rw [BitVec.allOnes_xor]
  have hw : word a b c d = crc m := by
    unfold be32 at h
    simp only [List.cons.injEq, and_true] at h
    obtain ⟨rfl, rfl, rfl, rfl⟩ := h
    exact word_be32 _
  rw [e, hw, ec, BitVec.xor_comm, BitVec.xor_assoc, BitVec.xor_self, BitVec.xor_zero]; rfl
theorem sealed_rsd (x : List UInt8) : Phi (sealed x) = Rsd := crc_rsd (leb x.length ++ x) _ _ _ _ rfl
theorem Phi_byte (p : List UInt8) (q : Nat) (m : UInt8) (hq : q < p.length) : Phi (p.set q (p[q] ^^^ m)) = Phi p ^^^ T (8 * (p.length - (q + 1)) + 8) (emb m) := by
  have e1 : p = p.take q ++ p[q] :: p.drop (q + 1) := by
    conv => lhs; rw [← List.take_append_drop q p]
    rw [List.drop_eq_getElem_cons hq]
  have e2 : p.set q (p[q] ^^^ m) = p.take q ++ (p[q] ^^^ m) :: p.drop (q + 1) := by
    rw [List.set_eq_take_append_cons_drop, if_pos hq]
  have hd : (p.drop (q + 1)).length = p.length - (q + 1) := by simp
  unfold Phi
  rw [e2]
  conv => rhs; lhs; rw [e1]
  rw [List.foldl_append, List.foldl_append, List.foldl_cons, List.foldl_cons]
  generalize (p.take q).foldl crcByte (BitVec.allOnes 32) = S
  have e3 : crcByte S (p[q] ^^^ m) = crcByte S p[q] ^^^ T 8 (emb m) := by
    show T 8 (S ^^^ emb (p[q] ^^^ _)) = T 8 (S ^^^ emb p[q]) ^^^ _
    rw [emb_xor, ← BitVec.xor_assoc, T_xor]
  rw [e3, fold_lin, ← T_add, hd]
theorem emb_zero (m : UInt8) (h : emb m = 0#32) : m = 0 := by
  have h1 := congrArg BitVec.toNat h
  unfold emb at h1
  have hx := m.toBitVec.isLt
  rw [BitVec.toNat_shiftLeft, BitVec.toNat_setWidth, Nat.shiftLeft_eq] at h1
  have e0 : m.toBitVec.toNat % 2 ^ 32 = m.toBitVec.toNat := Nat.mod_eq_of_lt (by omega)
  rw [e0, Nat.mod_eq_of_lt (by omega)] at h1
  have e1 : (0#32).toNat = 0 := rfl
  rw [e1] at h1
  have : m.toNat = 0 := by
    show m.toBitVec.toNat = 0
    omega
  exact UInt8.toNat_inj.1 this
theorem seal_byte (x y : List UInt8) (q : Nat) (m : UInt8) (hq : q < (sealed x).length) (h : (sealed x).set q ((sealed x)[q] ^^^ m) = sealed y) : m = 0 := by
  have h1 := Phi_byte (sealed x) q m hq
  rw [h, sealed_rsd, sealed_rsd] at h1
  have h2 : T (8 * ((sealed x).length - (q + 1)) + 8) (emb m) = 0#32 := by
    have := congrArg (fun z => Rsd ^^^ z) h1
    simp only [← BitVec.xor_assoc, BitVec.xor_self, BitVec.zero_xor] at this
    exact this.symm
  exact emb_zero m (T_inj _ _ h2)
theorem takeN_turn {A : NT} (hr : rightN A = true) (fa : FitN A) (q : Nat) (m : UInt8) (hq : q < (sealed (bodyN A)).length) :
    takeN ((sealed (bodyN A)).set q ((sealed (bodyN A))[q] ^^^ m)) = if m = 0 then some A else none := by
  by_cases hm : m = 0
  · rw [if_pos hm, hm, UInt8.xor_zero, List.set_getElem_self, takeN_put hr fa]
  · rw [if_neg hm]
    rcases hk : takeN ((sealed (bodyN A)).set q ((sealed (bodyN A))[q] ^^^ m)) with _ | z
    · rfl
    · exact absurd (seal_byte _ _ q m hq (takeN_some hk).2.2) hm
theorem takeN_cut {A : NT} (hr : rightN A = true) (fa : FitN A) (k : Nat) (hk : k < (sealed (bodyN A)).length) : takeN ((sealed (bodyN A)).take k) = none := by
  have := bodyN_len hr fa
  unfold takeN
  rw [takeSeal_cut _ _ (by omega) hk]
theorem xorB (a b : UInt8) : evBits .xor .u8 (a.toNat : Int) (b.toNat : Int) = (((a ^^^ b).toNat : Nat) : Int) := x8 a.toBitVec b.toBitVec

theorem mapSet (p : List UInt8) (q : Nat) (v : UInt8) : (p.map encB).set q [.lit (.int .u8 ((v.toNat : Nat) : Int))] = (p.set q v).map encB := by
  rw [List.map_set]; rfl
end Go.Proofs.Ytflpphgccjlkjaa

set_option linter.unusedSimpArgs false
set_option linter.unusedVariables false
namespace Go.Proofs.Ytflpphgccjlkjaa
open Go Go.AM

def entR : Option (List EntT × List UInt8) → PV
  | none => .tup [nilS, bool false]
  | some (l, r) => .tup [.d (.sl 7 (l.map encE)), bool (decide (r = []))]

set_option maxRecDepth 8000 in
set_option maxHeartbeats 2000000 in
theorem noteEntries (b : List UInt8) (many : Nat) (hl : b.length ≤ 10000000) (hm : many ≤ 300) : AFun Try.prog 43 [byts b, u64 many] [] (entR (decN takeE many b)) [] := by
  refine AFun.of_walk hP Try.func43 rfl rfl rfl (by simp) rfl ?_
  simp only [Try.f43, u64, byts, am, simprocAttr, tys]
  refine ALoopW.ghost 6 7 rfl ?_
  simp only [am, simprocAttr, tys]
  refine ALoopW.intro 50 0 (ι := { z : Nat × List EntT × List UInt8 // z.1 ≤ many ∧ decN takeE z.1 b = some (z.2.1, z.2.2) }) (fun z => [(0, byts z.1.2.2), (6, .own 0), (12, u64 many), (13, u64 z.1.1)]) (fun z => [.own 7 (z.1.2.1.map encE)]) (fun z => many - z.1.1)
    ⟨(0, [], b), by omega, rfl⟩ [] [0] ?_ (fun ⟨⟨k, l, r⟩, hk, hd⟩ => ?_)
  · exact ⟨rfl, rfl, by simp, (fun i hi => absurd hi (Nat.not_lt_zero _)), ⟨.inr rfl, .inr rfl, .inr rfl, .inr rfl, trivial⟩, ⟨.inr ⟨by decide, rfl⟩, trivial⟩, rfl, by decide, rfl, (by first | rfl | simp [scRow, tkC_scs])⟩
  simp only at hk hd ⊢
  obtain ⟨d1, d2, d3, d4⟩ := decE_some _ _ _ _ hd
  rcases Nat.lt_or_ge k many with hlt | hge
  · have hltI : ((k : Int) < many) := by omega
    have hfail : takeE r = none → decN takeE many b = none := fun h => by
      have := decN_snoc takeE k b
      rw [hd] at this
      simp only [h] at this
      have := decN_none takeE this (many - (k + 1))
      rwa [show k + 1 + (many - (k + 1)) = many from by omega] at this
    have e1 : IntKind.u64.wrap ((k : Int) + 1) = ((k + 1 : Nat) : Int) := by rw [IntWalk.u64_in _ (by omega)]; simp
    simp only [u64, byts, hltI, am, simprocAttr, tys]
    refine ACall.of (octsNew r (by omega)) [] [] rfl (by simp) (by simp) (by simp) (by repeat' (first | exact trivial | exact .inl rfl | exact .inr rfl | exact .inr ⟨rfl, rfl, rfl, by simp; done⟩ | exact .inr ⟨rfl, by simp; done⟩ | exact .inr ⟨rfl, rfl, by simp; done⟩ | apply And.intro)) (by repeat' (first | exact trivial | rfl | exact (tkC_ren.1 _ _).symm | (simp; done) | apply And.intro)) (by first | exact .inl rfl | (refine .inr ⟨trivial, ?_⟩; first | (intro row h; rcases List.mem_singleton.1 h with rfl; exact nvB _) | (intro row h; cases h; done) | (simp; done)) | (refine .inr ⟨by simp [nvP, nvP.nvPs, nvD, nilS, errno], ?_⟩; first | (intro row h; rcases List.mem_singleton.1 h with rfl; exact nvB _) | (intro row h; cases h; done) | (simp [nvRow, nvD, nvP]; done))) ?_
    simp only [tkC_ren, am, simprocAttr, tys]
    refine ACall.of (tkNum (some r) (by intro bs h; cases h <;> omega)) [1] [] rfl (by simp) (by simp) (by simp) (by repeat' (first | exact trivial | exact .inl rfl | exact .inr rfl | exact .inr ⟨rfl, rfl, rfl, by simp; done⟩ | exact .inr ⟨rfl, by simp; done⟩ | exact .inr ⟨rfl, rfl, by simp; done⟩ | apply And.intro)) (by repeat' (first | exact trivial | rfl | exact (tkC_ren.1 _ _).symm | (simp; done) | apply And.intro)) (by first | exact .inl rfl | (refine .inr ⟨trivial, ?_⟩; first | (intro row h; rcases List.mem_singleton.1 h with rfl; exact nvB _) | (intro row h; cases h; done) | (simp; done)) | (refine .inr ⟨by simp [nvP, nvP.nvPs, nvD, nilS, errno], ?_⟩; first | (intro row h; rcases List.mem_singleton.1 h with rfl; exact nvB _) | (intro row h; cases h; done) | (simp [nvRow, nvD, nvP]; done))) ?_
    rcases h1 : takeNum r with _ | ⟨c, r1⟩
    · have hte : takeE r = none := by unfold takeE; rw [h1]
      have ht : decN takeE many b = none := hfail hte
      have hO := opTake [] (by simp)
      have hz : takeO ([] : List UInt8) = none := rfl
      rw [hz] at hO
      simp only [takeOR, encO, byts] at hO
      have w0 : IntKind.i64.wrap ((r.length : Int) - 0) = (r.length : Int) := IntWalk.i64_in _ (by omega)
      have w0' : IntKind.i64.wrap (r.length : Int) = (r.length : Int) := IntWalk.i64_in _ (by omega)
      have hdr : r.drop r.length = [] := by simp
      simp only [numT, h1, u64, tkC_ren, am, simprocAttr, tys]
      refine ACall.of (tkNum none (by intro bs h; cases h)) [1] [] rfl (by simp) (by simp) (by simp) (by repeat' (first | exact trivial | exact .inl rfl | exact .inr rfl | exact .inr ⟨rfl, rfl, rfl, by simp; done⟩ | exact .inr ⟨rfl, by simp; done⟩ | exact .inr ⟨rfl, rfl, by simp; done⟩ | apply And.intro)) (by repeat' (first | exact trivial | rfl | exact (tkC_ren.1 _ _).symm | (simp; done) | apply And.intro)) (by first | exact .inl rfl | (refine .inr ⟨trivial, ?_⟩; first | (intro row h; rcases List.mem_singleton.1 h with rfl; exact nvB _) | (intro row h; cases h; done) | (simp; done)) | (refine .inr ⟨by simp [nvP, nvP.nvPs, nvD, nilS, errno], ?_⟩; first | (intro row h; rcases List.mem_singleton.1 h with rfl; exact nvB _) | (intro row h; cases h; done) | (simp [nvRow, nvD, nvP]; done))) ?_
      simp only [numT, u64, tkC_ren, am, simprocAttr, tys]
      refine ACall.of (tkLeft none) [1] [] rfl (by simp) (by simp) (by simp) (by repeat' (first | exact trivial | exact .inl rfl | exact .inr rfl | exact .inr ⟨rfl, rfl, rfl, by simp; done⟩ | exact .inr ⟨rfl, by simp; done⟩ | exact .inr ⟨rfl, rfl, by simp; done⟩ | apply And.intro)) (by repeat' (first | exact trivial | rfl | exact (tkC_ren.1 _ _).symm | (simp; done) | apply And.intro)) (by first | exact .inl rfl | (refine .inr ⟨trivial, ?_⟩; first | (intro row h; rcases List.mem_singleton.1 h with rfl; exact nvB _) | (intro row h; cases h; done) | (simp; done)) | (refine .inr ⟨by simp [nvP, nvP.nvPs, nvD, nilS, errno], ?_⟩; first | (intro row h; rcases List.mem_singleton.1 h with rfl; exact nvB _) | (intro row h; cases h; done) | (simp [nvRow, nvD, nvP]; done))) ?_
      simp only [leftT, int, tkC_ren, Int.sub_zero, w0', Int.natCast_nonneg, Int.toNat_natCast, ← List.map_take, ← List.map_drop, List.take_length, hdr, am, simprocAttr, tys]
      refine ⟨Int.le_refl _, ?_⟩
      refine ACall.of (hO) [] [] rfl (by simp) (by simp) (by simp) (by repeat' (first | exact trivial | exact .inl rfl | exact .inr rfl | exact .inr ⟨rfl, rfl, rfl, by simp; done⟩ | exact .inr ⟨rfl, by simp; done⟩ | exact .inr ⟨rfl, rfl, by simp; done⟩ | apply And.intro)) (by repeat' (first | exact trivial | rfl | exact (tkC_ren.1 _ _).symm | (simp; done) | apply And.intro)) (by first | exact .inl rfl | (refine .inr ⟨trivial, ?_⟩; first | (intro row h; rcases List.mem_singleton.1 h with rfl; exact nvB _) | (intro row h; cases h; done) | (simp; done)) | (refine .inr ⟨by simp [nvP, nvP.nvPs, nvD, nilS, errno], ?_⟩; first | (intro row h; rcases List.mem_singleton.1 h with rfl; exact nvB _) | (intro row h; cases h; done) | (simp [nvRow, nvD, nvP]; done))) ?_
      rw [ht]
      simp only [entR, bool, nilS, errno, FinR, evRes, evRVs, evRV, am, simprocAttr, tys]
      exact ⟨_, [], [], rfl, Ent.plain rfl rfl rfl trivial rfl, rfl, rfl⟩
    · obtain ⟨g1, g2⟩ := takeNum_some h1
      have gl := congrArg List.length g2
      rw [List.length_append] at gl
      simp only [numT, h1, u64, tkC_ren, am, simprocAttr, tys]
      refine ACall.of (tkNum (some r1) (by intro bs h; cases h <;> omega)) [1] [] rfl (by simp) (by simp) (by simp) (by repeat' (first | exact trivial | exact .inl rfl | exact .inr rfl | exact .inr ⟨rfl, rfl, rfl, by simp; done⟩ | exact .inr ⟨rfl, by simp; done⟩ | exact .inr ⟨rfl, rfl, by simp; done⟩ | apply And.intro)) (by repeat' (first | exact trivial | rfl | exact (tkC_ren.1 _ _).symm | (simp; done) | apply And.intro)) (by first | exact .inl rfl | (refine .inr ⟨trivial, ?_⟩; first | (intro row h; rcases List.mem_singleton.1 h with rfl; exact nvB _) | (intro row h; cases h; done) | (simp; done)) | (refine .inr ⟨by simp [nvP, nvP.nvPs, nvD, nilS, errno], ?_⟩; first | (intro row h; rcases List.mem_singleton.1 h with rfl; exact nvB _) | (intro row h; cases h; done) | (simp [nvRow, nvD, nvP]; done))) ?_
      rcases h2 : takeNum r1 with _ | ⟨q, r2⟩
      · have hte : takeE r = none := by unfold takeE; rw [h1]; simp only [h2]
        have ht : decN takeE many b = none := hfail hte
        have hO := opTake [] (by simp)
        have hz : takeO ([] : List UInt8) = none := rfl
        rw [hz] at hO
        simp only [takeOR, encO, byts] at hO
        have w0' : IntKind.i64.wrap (r.length : Int) = (r.length : Int) := IntWalk.i64_in _ (by omega)
        have hdr : r.drop r.length = [] := by simp
        simp only [numT, h2, u64, tkC_ren, am, simprocAttr, tys]
        refine ACall.of (tkLeft none) [1] [] rfl (by simp) (by simp) (by simp) (by repeat' (first | exact trivial | exact .inl rfl | exact .inr rfl | exact .inr ⟨rfl, rfl, rfl, by simp; done⟩ | exact .inr ⟨rfl, by simp; done⟩ | exact .inr ⟨rfl, rfl, by simp; done⟩ | apply And.intro)) (by repeat' (first | exact trivial | rfl | exact (tkC_ren.1 _ _).symm | (simp; done) | apply And.intro)) (by first | exact .inl rfl | (refine .inr ⟨trivial, ?_⟩; first | (intro row h; rcases List.mem_singleton.1 h with rfl; exact nvB _) | (intro row h; cases h; done) | (simp; done)) | (refine .inr ⟨by simp [nvP, nvP.nvPs, nvD, nilS, errno], ?_⟩; first | (intro row h; rcases List.mem_singleton.1 h with rfl; exact nvB _) | (intro row h; cases h; done) | (simp [nvRow, nvD, nvP]; done))) ?_
        simp only [leftT, int, tkC_ren, Int.sub_zero, w0', Int.natCast_nonneg, Int.toNat_natCast, ← List.map_take, ← List.map_drop, List.take_length, hdr, am, simprocAttr, tys]
        refine ⟨Int.le_refl _, ?_⟩
        refine ACall.of (hO) [] [] rfl (by simp) (by simp) (by simp) (by repeat' (first | exact trivial | exact .inl rfl | exact .inr rfl | exact .inr ⟨rfl, rfl, rfl, by simp; done⟩ | exact .inr ⟨rfl, by simp; done⟩ | exact .inr ⟨rfl, rfl, by simp; done⟩ | apply And.intro)) (by repeat' (first | exact trivial | rfl | exact (tkC_ren.1 _ _).symm | (simp; done) | apply And.intro)) (by first | exact .inl rfl | (refine .inr ⟨trivial, ?_⟩; first | (intro row h; rcases List.mem_singleton.1 h with rfl; exact nvB _) | (intro row h; cases h; done) | (simp; done)) | (refine .inr ⟨by simp [nvP, nvP.nvPs, nvD, nilS, errno], ?_⟩; first | (intro row h; rcases List.mem_singleton.1 h with rfl; exact nvB _) | (intro row h; cases h; done) | (simp [nvRow, nvD, nvP]; done))) ?_
        rw [ht]
        simp only [entR, bool, nilS, errno, FinR, evRes, evRVs, evRV, am, simprocAttr, tys]
        exact ⟨_, [], [], rfl, Ent.plain rfl rfl rfl trivial rfl, rfl, rfl⟩
      · obtain ⟨p1, p2⟩ := takeNum_some h2
        have pl := congrArg List.length p2
        rw [List.length_append] at pl
        have hrr : r = (leb c ++ leb q) ++ r2 := by rw [List.append_assoc, ← p2]; exact g2
        have w3 : IntKind.i64.wrap ((r.length : Int) - r2.length) = ((r.length - r2.length : Nat) : Int) := by rw [IntWalk.i64_in _ (by omega)]; omega
        have w4 : r.drop (r.length - r2.length) = r2 := by rw [hrr]; exact drop_tail _ _
        have w5 : ((r.length - r2.length : Nat) : Int) ≤ (r.length : Int) := by omega
        have nc : IntKind.i64.wrap (c : Int) = numI c := rfl
        have nq : IntKind.i64.wrap (q : Int) = numI q := rfl
        have hO := opTake r2 (by omega)
        simp only [numT, h2, u64, tkC_ren, am, simprocAttr, tys]
        refine ACall.of (tkLeft (some r2)) [1] [] rfl (by simp) (by simp) (by simp) (by repeat' (first | exact trivial | exact .inl rfl | exact .inr rfl | exact .inr ⟨rfl, rfl, rfl, by simp; done⟩ | exact .inr ⟨rfl, by simp; done⟩ | exact .inr ⟨rfl, rfl, by simp; done⟩ | apply And.intro)) (by repeat' (first | exact trivial | rfl | exact (tkC_ren.1 _ _).symm | (simp; done) | apply And.intro)) (by first | exact .inl rfl | (refine .inr ⟨trivial, ?_⟩; first | (intro row h; rcases List.mem_singleton.1 h with rfl; exact nvB _) | (intro row h; cases h; done) | (simp; done)) | (refine .inr ⟨by simp [nvP, nvP.nvPs, nvD, nilS, errno], ?_⟩; first | (intro row h; rcases List.mem_singleton.1 h with rfl; exact nvB _) | (intro row h; cases h; done) | (simp [nvRow, nvD, nvP]; done))) ?_
        simp only [leftT, int, tkC_ren, w3, w5, nc, nq, Int.natCast_nonneg, Int.toNat_natCast, ← List.map_take, ← List.map_drop, List.take_length, w4, am, simprocAttr, tys]
        rcases h3 : takeO r2 with _ | ⟨o, r3⟩
        · have hte : takeE r = none := by unfold takeE; rw [h1]; simp only [h2, h3]
          have ht : decN takeE many b = none := hfail hte
          rw [h3] at hO
          simp only [takeOR, encO, byts] at hO
          refine ⟨Int.le_refl _, ?_⟩
          refine ACall.of (hO) [] [] rfl (by simp) (by simp) (by simp) (by repeat' (first | exact trivial | exact .inl rfl | exact .inr rfl | exact .inr ⟨rfl, rfl, rfl, by simp; done⟩ | exact .inr ⟨rfl, by simp; done⟩ | exact .inr ⟨rfl, rfl, by simp; done⟩ | apply And.intro)) (by repeat' (first | exact trivial | rfl | exact (tkC_ren.1 _ _).symm | (simp; done) | apply And.intro)) (by first | exact .inl rfl | (refine .inr ⟨trivial, ?_⟩; first | (intro row h; rcases List.mem_singleton.1 h with rfl; exact nvB _) | (intro row h; cases h; done) | (simp; done)) | (refine .inr ⟨by simp [nvP, nvP.nvPs, nvD, nilS, errno], ?_⟩; first | (intro row h; rcases List.mem_singleton.1 h with rfl; exact nvB _) | (intro row h; cases h; done) | (simp [nvRow, nvD, nvP]; done))) ?_
          rw [ht]
          simp only [entR, bool, nilS, errno, FinR, evRes, evRVs, evRV, am, simprocAttr, tys]
          exact ⟨_, [], [], rfl, Ent.plain rfl rfl rfl trivial rfl, rfl, rfl⟩
        · have hte : takeE r = some ((numI c, numI q, o, ()), r3) := by unfold takeE; rw [h1]; simp only [h2, h3]
          have hd2 : decN takeE (k + 1) b = some (l ++ [(numI c, numI q, o, ())], r3) := by
            rw [decN_snoc, hd]; simp only [hte]
          have ea : l.map encE ++ [[DV.lit (.int .i64 (numI c)), .lit (.int .i64 (numI q)), .lit (.int .u8 (o.1.toNat : Int)), .sl 2 (o.2.1.map encL), .lit (.int .i64 o.2.2.1.1), .lit (.int .i64 o.2.2.1.2.1), .sl 3 (o.2.2.2.1.map encA)]] = (l ++ [(numI c, numI q, o, ())]).map encE := by rw [List.map_append]; rfl
          rw [h3] at hO
          simp only [takeOR, encO, byts] at hO
          refine ⟨Int.le_refl _, ?_⟩
          refine ACall.of (hO) [] [] rfl (by simp) (by simp) (by simp) (by repeat' (first | exact trivial | exact .inl rfl | exact .inr rfl | exact .inr ⟨rfl, rfl, rfl, by simp; done⟩ | exact .inr ⟨rfl, by simp; done⟩ | exact .inr ⟨rfl, rfl, by simp; done⟩ | apply And.intro)) (by repeat' (first | exact trivial | rfl | exact (tkC_ren.1 _ _).symm | (simp; done) | apply And.intro)) (by first | exact .inl rfl | (refine .inr ⟨trivial, ?_⟩; first | (intro row h; rcases List.mem_singleton.1 h with rfl; exact nvB _) | (intro row h; cases h; done) | (simp; done)) | (refine .inr ⟨by simp [nvP, nvP.nvPs, nvD, nilS, errno], ?_⟩; first | (intro row h; rcases List.mem_singleton.1 h with rfl; exact nvB _) | (intro row h; cases h; done) | (simp [nvRow, nvD, nvP]; done))) ?_
          simp only [errno, byts, ea, e1, List.length_map, am, simprocAttr, tys]
          exact ⟨by omega, ⟨(k + 1, l ++ [(numI c, numI q, o, ())], r3), by omega, hd2⟩, [], [5], ⟨rfl, rfl, by simp, (fun i hi => absurd hi (Nat.not_lt_zero _)), ⟨.inr rfl, .inr rfl, .inr rfl, .inr rfl, trivial⟩, ⟨.inr ⟨by decide, rfl⟩, trivial⟩, rfl, by decide, rfl, (by first | rfl | simp [scRow, tkC_scs])⟩, by show many - (k + 1) < many - k; omega⟩
  · have hltI : ¬ ((k : Int) < many) := by omega
    obtain rfl : k = many := by omega
    have hz : decide ((r.length : Int) = 0) = decide (r = []) := by
      rw [decide_eq_decide, ← List.length_eq_zero_iff]; omega
    have hz2 : ((r.length : Int) == 0) = decide (r = []) := by
      rw [Bool.eq_iff_iff, beq_iff_eq, decide_eq_true_eq, ← List.length_eq_zero_iff]; omega
    simp only [u64, byts, hltI, hd, entR, hz, hz2, bool, List.length_map, FinR, evRes, evRVs, evRV, am, simprocAttr, tys]
    exact ⟨_, [0], [], rfl, ⟨rfl, rfl, by simp, (fun i hi => absurd hi (Nat.not_lt_zero _)), trivial, trivial, rfl, by decide, rfl, (by first | rfl | simp [scRow, tkC_scs])⟩, rfl, rfl⟩
end Go.Proofs.Ytflpphgccjlkjaa
