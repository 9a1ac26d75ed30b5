/- Proved here: what the functions of the program compute. No condition. -/
import Derived.Test.YtflpphgccjlkjaaK9
import Derived.Test.YtflpphgccjlkjaaK10
set_option linter.all false
set_option linter.unusedSimpArgs false
set_option linter.unusedVariables false
set_option linter.unusedSimpArgs false
set_option linter.unusedVariables false
namespace Go.Proofs.Ytflpphgccjlkjaa
open Go Go.AM

theorem takeB_dec {k : UInt8} {r : List UInt8} {y : NT} (h : takeB k r = some y) : uS r 14 ≤ 300 ∧ ∃ q, tS r 15 = some q ∧ decN takeE (uS r 14) q = some (y.log, []) ∧ y = mkN k r y.log := by
  unfold takeB at h
  split at h
  · cases h
  · split at h
    · cases h
    · rename_i h3
      split at h
      · cases h
      · rename_i q hq
        split at h
        · rename_i l hl
          split at h
          · cases h; exact ⟨by omega, q, hq, hl, rfl⟩
          · cases h
        · cases h
theorem takeB_no {k : UInt8} {r : List UInt8} (h : tS r 15 = none) : takeB k r = none := by
  rcases hb : takeB k r with _ | y
  · rfl
  · obtain ⟨_, q, hq, _⟩ := takeB_dec hb
    rw [h] at hq; cases hq
theorem takeB_nd {k : UInt8} {r q : List UInt8} (h : tS r 15 = some q) {j : Nat} (hj : j ≤ uS r 14) (hd : uS r 14 ≤ 300 → decN takeE j q = none) : takeB k r = none := by
  rcases hb : takeB k r with _ | y
  · rfl
  · obtain ⟨h3, q', hq, h4, _⟩ := takeB_dec hb
    rw [h] at hq; cases hq
    have := decN_none takeE (hd h3) (uS r 14 - j)
    rw [show j + (uS r 14 - j) = uS r 14 from by omega, h4] at this
    cases this
theorem takeE_two (bs : List UInt8) : takeE bs = match (numT (numT (some bs)).2).2 with
    | none => none
    | some r2 => match takeO r2 with | none => none | some (o, r3) => some ((numI (numT (some bs)).1, numI (numT (numT (some bs)).2).1, o, ()), r3) := by
  unfold takeE
  rcases h1 : takeNum bs with _ | ⟨c, r1⟩
  · simp only [numT, h1]
  · simp only [numT, h1]
    rcases h2 : takeNum r1 with _ | ⟨q, r2⟩
    · rfl
    · simp only
      rcases h3 : takeO r2 with _ | ⟨o, r3⟩ <;> rfl
theorem take_end {b : List UInt8} {k : UInt8} {r q : List UInt8} {l : List EntT} {bs : List UInt8} (ht : takeN b = takeB k r) (h15 : tS r 15 = some q) (hd : decN takeE (min (uS r 14) 301) q = some (l, bs)) :
    takeN b = if rightN (mkN k r l) = true ∧ sealed (bodyN (mkN k r l)) = b then some (mkN k r l) else none := by
  obtain ⟨d1, d2, d3, d4⟩ := decE_some _ _ _ _ hd
  by_cases hc : rightN (mkN k r l) = true ∧ sealed (bodyN (mkN k r l)) = b
  · rw [if_pos hc, ← hc.2]
    exact takeN_put hc.1 (mkN_fit k r (by omega) d3)
  · rw [if_neg hc]
    rcases hb : takeN b with _ | y
    · rfl
    · exfalso
      obtain ⟨g1, g2, g3⟩ := takeN_some hb
      rw [ht] at hb
      obtain ⟨h3, q', hq, h4, h5⟩ := takeB_dec hb
      rw [h15] at hq; cases hq
      rw [Nat.min_eq_left (by omega), h4] at hd
      cases hd
      rw [← h5] at hc
      exact hc ⟨g1, g3.symm⟩
theorem numT_l {bs : List UInt8} {t : Tk} (h : TkB bs.length t) : TkB bs.length (numT t).2 := numT_B t h
def cellsV (x : NT) : List DV := [.lit (.int .u8 x.k.toNat), .lit (.int .i64 x.f), .lit (.int .i64 x.t), .lit (.int .i64 x.v), .lit (.int .i64 x.n), .lit (.int .i64 x.i), .lit (.int .i64 x.s), .lit (.bool x.ld),
  .lit (.int .i64 x.l0), .lit (.int .i64 x.l1), .lit (.int .i64 x.l2), .lit (.int .i64 x.l3), .lit (.int .i64 x.l4), .lit (.int .i64 x.l5), .lit (.int .i64 x.l6), match x.log with | [] => nlD | l => .sl 7 (l.map encE)]
theorem cellsV_cle (x : NT) : cle (cellsV x) (encN x) := by
  obtain ⟨k, f, t, v, n, i, s, ld, l0, l1, l2, l3, l4, l5, l6, l⟩ := x
  rcases l with _ | ⟨e, l⟩
  · exact ⟨.inl rfl, .inl rfl, .inl rfl, .inl rfl, .inl rfl, .inl rfl, .inl rfl, .inl rfl, .inl rfl, .inl rfl, .inl rfl, .inl rfl, .inl rfl, .inl rfl, .inl rfl, .inr ⟨rfl, 7, rfl⟩, trivial⟩
  · exact ⟨.inl rfl, .inl rfl, .inl rfl, .inl rfl, .inl rfl, .inl rfl, .inl rfl, .inl rfl, .inl rfl, .inl rfl, .inl rfl, .inl rfl, .inl rfl, .inl rfl, .inl rfl, .inl rfl, trivial⟩
def takeNV : Option NT → PV
  | none => failNP
  | some x => .tup [.d (.agg (cellsV x)), errno 0]
theorem failN_ok' {f : Nat} {b : List UInt8} (h : AFun Try.prog f [byts b] [] failNP []) : AFun Try.prog f [byts b] [] (takeNR none) [] := failN_ok h
/-- the cells of a note whose log is p -/
def cB (k : UInt8) (r : List UInt8) (p : PV) : List PV := [.d (.lit (.int .u8 k.toNat)), int (numI (uS r 0)), int (numI (uS r 1)), int (numI (uS r 2)), int (numI (uS r 3)), int (numI (uS r 4)), int (numI (uS r 5)), bool (uS r 6 == 1), int (numI (uS r 7)), int (numI (uS r 8)), int (numI (uS r 9)), int (numI (uS r 10)), int (numI (uS r 11)), int (numI (uS r 12)), int (numI (uS r 13)), p]
def rowsV (k : UInt8) (r bs : List UInt8) : List EntT → List Row
  | [] => [.box (failC.map .d), .box (cB k r (.d nlD)), .box (tkC (some bs))]
  | e :: l => [.box (failC.map .d), .box (cB k r (.own 3)), .box (tkC (some bs)), .own 7 ((e :: l).map encE)]
theorem rowsV_ne (k : UInt8) (r bs : List UInt8) {l : List EntT} (h : l ≠ []) : rowsV k r bs l = [.box (failC.map .d), .box (cB k r (.own 3)), .box (tkC (some bs)), .own 7 (l.map encE)] := by
  cases l with
  | nil => exact absurd rfl h
  | cons e l => rfl

set_option maxRecDepth 8000 in
set_option maxHeartbeats 16000000 in
theorem refNTakeV (b : List UInt8) (hb : b.length ≤ 10000000) : AFun Try.prog 20 [byts b] [] (takeNV (takeN b)) [] := by
  have cS := refSTake b (by omega)
  rcases hs : takeSeal b with _ | ⟨x, rest⟩
  · have ht : takeN b = none := by unfold takeN; rw [hs]
    rw [ht]; rw [hs] at cS
    show AFun Try.prog 20 [byts b] [] failNP []
    refine AFun.of_walk hP Try.func20 rfl rfl rfl (by simp) rfl ?_
    simp only [Try.f20, am, simprocAttr, tys]
    refine ACall.of (cS) [] [] rfl (by simp) (by simp) (by simp) (by repeat' (first | exact trivial | exact .inl rfl | exact .inr rfl | exact .inr ⟨rfl, rfl, rfl, by simp; done⟩ | exact .inr ⟨rfl, by simp; done⟩ | exact .inr ⟨rfl, rfl, by simp; done⟩ | apply And.intro)) (by repeat' (first | exact trivial | rfl | exact (tkC_ren.1 _ _).symm | (simp; done) | apply And.intro)) (by first | exact .inl rfl | (refine .inr ⟨trivial, ?_⟩; first | (intro row h; rcases List.mem_singleton.1 h with rfl; exact nvB _) | (intro row h; cases h; done) | (simp; done)) | (refine .inr ⟨by simp [nvP, nvP.nvPs, nvD, nilS, errno], ?_⟩; first | (intro row h; rcases List.mem_singleton.1 h with rfl; exact nvB _) | (intro row h; cases h; done) | (simp [nvRow, nvD, nvP]; done))) ?_
    simp only [takeR, nilS, errno, FinR, evRes, evRVs, evRV, am, simprocAttr, tys]
    exact ⟨_, [], [], rfl, Ent.plain rfl rfl rfl trivial rfl, rfl, rfl⟩
  rw [hs] at cS
  have hxl := takeSeal_len hs
  rcases rest with _ | ⟨c, cs⟩
  case' cons =>
    have ht : takeN b = none := by unfold takeN; rw [hs]; cases x <;> rfl
    rw [ht]
    show AFun Try.prog 20 [byts b] [] failNP []
    refine AFun.of_walk hP Try.func20 rfl rfl rfl (by simp) rfl ?_
    have hI : ((0 : Int) < ((c :: cs : List UInt8).length : Nat)) := by rw [List.length_cons]; omega
    generalize (c :: cs : List UInt8) = rest at *
    simp only [Try.f20, am, simprocAttr, tys]
    refine ACall.of (cS) [] [] rfl (by simp) (by simp) (by simp) (by repeat' (first | exact trivial | exact .inl rfl | exact .inr rfl | exact .inr ⟨rfl, rfl, rfl, by simp; done⟩ | exact .inr ⟨rfl, by simp; done⟩ | exact .inr ⟨rfl, rfl, by simp; done⟩ | apply And.intro)) (by repeat' (first | exact trivial | rfl | exact (tkC_ren.1 _ _).symm | (simp; done) | apply And.intro)) (by first | exact .inl rfl | (refine .inr ⟨trivial, ?_⟩; first | (intro row h; rcases List.mem_singleton.1 h with rfl; exact nvB _) | (intro row h; cases h; done) | (simp; done)) | (refine .inr ⟨by simp [nvP, nvP.nvPs, nvD, nilS, errno], ?_⟩; first | (intro row h; rcases List.mem_singleton.1 h with rfl; exact nvB _) | (intro row h; cases h; done) | (simp [nvRow, nvD, nvP]; done))) ?_
    simp only [takeR, byts, errno, hI, List.length_map, FinR, evRes, evRVs, evRV, am, simprocAttr, tys]
    exact ⟨_, [], [], rfl, Ent.plain rfl rfl rfl trivial rfl, rfl, rfl⟩
  rcases x with _ | ⟨k, r⟩
  case' nil =>
    have ht : takeN b = none := by unfold takeN; rw [hs]
    rw [ht]
    show AFun Try.prog 20 [byts b] [] failNP []
    refine AFun.of_walk hP Try.func20 rfl rfl rfl (by simp) rfl ?_
    simp only [Try.f20, am, simprocAttr, tys]
    refine ACall.of (cS) [] [] rfl (by simp) (by simp) (by simp) (by repeat' (first | exact trivial | exact .inl rfl | exact .inr rfl | exact .inr ⟨rfl, rfl, rfl, by simp; done⟩ | exact .inr ⟨rfl, by simp; done⟩ | exact .inr ⟨rfl, rfl, by simp; done⟩ | apply And.intro)) (by repeat' (first | exact trivial | rfl | exact (tkC_ren.1 _ _).symm | (simp; done) | apply And.intro)) (by first | exact .inl rfl | (refine .inr ⟨trivial, ?_⟩; first | (intro row h; rcases List.mem_singleton.1 h with rfl; exact nvB _) | (intro row h; cases h; done) | (simp; done)) | (refine .inr ⟨by simp [nvP, nvP.nvPs, nvD, nilS, errno], ?_⟩; first | (intro row h; rcases List.mem_singleton.1 h with rfl; exact nvB _) | (intro row h; cases h; done) | (simp [nvRow, nvD, nvP]; done))) ?_
    simp only [takeR, byts, errno, List.length_nil, List.length_map, FinR, evRes, evRVs, evRV, am, simprocAttr, tys]
    exact ⟨_, [], [], rfl, Ent.plain rfl rfl rfl trivial rfl, rfl, rfl⟩
  have ht : takeN b = takeB k r := by unfold takeN; rw [hs]
  have hrl : r.length + 1 ≤ b.length := by simpa using hxl
  have hE : ((((k :: r : List UInt8).length : Nat) : Int) == 0) = false := by rw [beq_eq_false_iff_ne, List.length_cons]; omega
  have hI1 : ((1 : Int) ≤ (((k :: r : List UInt8).length : Nat) : Int)) := by rw [List.length_cons]; omega
  have h0 : (k :: r : List UInt8)[0]? = some k := rfl
  have hd1 : (k :: r : List UInt8).drop 1 = r := rfl
  have hlen : (k :: r : List UInt8).length = r.length + 1 := rfl
  have hB := tS_B r
  have hBj : ∀ j, ∀ bs, tS r j = some bs → bs.length ≤ 100000000000000 := fun j bs e => by have := hB j bs e; omega
  have hq : ((((numT (tS r 6)).1 : Nat) : Int) == 1) = (uS r 6 == 1) := by
    show (((uS r 6 : Nat) : Int) == 1) = (uS r 6 == 1)
    rw [Bool.eq_iff_iff, beq_iff_eq, beq_iff_eq]; omega
  generalize (k :: r : List UInt8) = xx at *
  refine AFun.of_walk hP Try.func20 rfl rfl rfl (by simp) rfl ?_
  simp only [Try.f20, am, simprocAttr, tys]
  refine ACall.of (cS) [] [] rfl (by simp) (by simp) (by simp) (by repeat' (first | exact trivial | exact .inl rfl | exact .inr rfl | exact .inr ⟨rfl, rfl, rfl, by simp; done⟩ | exact .inr ⟨rfl, by simp; done⟩ | exact .inr ⟨rfl, rfl, by simp; done⟩ | apply And.intro)) (by repeat' (first | exact trivial | rfl | exact (tkC_ren.1 _ _).symm | (simp; done) | apply And.intro)) (by first | exact .inl rfl | (refine .inr ⟨trivial, ?_⟩; first | (intro row h; rcases List.mem_singleton.1 h with rfl; exact nvB _) | (intro row h; cases h; done) | (simp; done)) | (refine .inr ⟨by simp [nvP, nvP.nvPs, nvD, nilS, errno], ?_⟩; first | (intro row h; rcases List.mem_singleton.1 h with rfl; exact nvB _) | (intro row h; cases h; done) | (simp [nvRow, nvD, nvP]; done))) ?_
  simp only [takeR, byts, errno, hE, hI1, h0, encB, List.length_nil, List.length_map, Int.toNat_zero, Int.toNat_one, Int.toNat_natCast, ← List.map_drop, ← List.map_take, List.take_length, hd1, am, simprocAttr, tys]
  refine ⟨Int.le_refl _, ?_⟩
  refine ACall.of (refNum (tS r 0) (hBj 0)) [2] [] rfl (by simp) (by simp) (by simp) (by repeat' (first | exact trivial | exact .inl rfl | exact .inr rfl | exact .inr ⟨rfl, rfl, rfl, by simp; done⟩ | exact .inr ⟨rfl, by simp; done⟩ | exact .inr ⟨rfl, rfl, by simp; done⟩ | apply And.intro)) (by repeat' (first | exact trivial | rfl | exact (tkC_ren.1 _ _).symm | (simp; done) | apply And.intro)) (by first | exact .inl rfl | (refine .inr ⟨trivial, ?_⟩; first | (intro row h; rcases List.mem_singleton.1 h with rfl; exact nvB _) | (intro row h; cases h; done) | (simp; done)) | (refine .inr ⟨by simp [nvP, nvP.nvPs, nvD, nilS, errno], ?_⟩; first | (intro row h; rcases List.mem_singleton.1 h with rfl; exact nvB _) | (intro row h; cases h; done) | (simp [nvRow, nvD, nvP]; done))) ?_
  simp only [u64, tkC_ren, am, simprocAttr, tys]
  refine ACall.of (refNum (tS r 1) (hBj 1)) [2] [] rfl (by simp) (by simp) (by simp) (by repeat' (first | exact trivial | exact .inl rfl | exact .inr rfl | exact .inr ⟨rfl, rfl, rfl, by simp; done⟩ | exact .inr ⟨rfl, by simp; done⟩ | exact .inr ⟨rfl, rfl, by simp; done⟩ | apply And.intro)) (by repeat' (first | exact trivial | rfl | exact (tkC_ren.1 _ _).symm | (simp; done) | apply And.intro)) (by first | exact .inl rfl | (refine .inr ⟨trivial, ?_⟩; first | (intro row h; rcases List.mem_singleton.1 h with rfl; exact nvB _) | (intro row h; cases h; done) | (simp; done)) | (refine .inr ⟨by simp [nvP, nvP.nvPs, nvD, nilS, errno], ?_⟩; first | (intro row h; rcases List.mem_singleton.1 h with rfl; exact nvB _) | (intro row h; cases h; done) | (simp [nvRow, nvD, nvP]; done))) ?_
  simp only [u64, tkC_ren, am, simprocAttr, tys]
  refine ACall.of (refNum (tS r 2) (hBj 2)) [2] [] rfl (by simp) (by simp) (by simp) (by repeat' (first | exact trivial | exact .inl rfl | exact .inr rfl | exact .inr ⟨rfl, rfl, rfl, by simp; done⟩ | exact .inr ⟨rfl, by simp; done⟩ | exact .inr ⟨rfl, rfl, by simp; done⟩ | apply And.intro)) (by repeat' (first | exact trivial | rfl | exact (tkC_ren.1 _ _).symm | (simp; done) | apply And.intro)) (by first | exact .inl rfl | (refine .inr ⟨trivial, ?_⟩; first | (intro row h; rcases List.mem_singleton.1 h with rfl; exact nvB _) | (intro row h; cases h; done) | (simp; done)) | (refine .inr ⟨by simp [nvP, nvP.nvPs, nvD, nilS, errno], ?_⟩; first | (intro row h; rcases List.mem_singleton.1 h with rfl; exact nvB _) | (intro row h; cases h; done) | (simp [nvRow, nvD, nvP]; done))) ?_
  simp only [u64, tkC_ren, am, simprocAttr, tys]
  refine ACall.of (refNum (tS r 3) (hBj 3)) [2] [] rfl (by simp) (by simp) (by simp) (by repeat' (first | exact trivial | exact .inl rfl | exact .inr rfl | exact .inr ⟨rfl, rfl, rfl, by simp; done⟩ | exact .inr ⟨rfl, by simp; done⟩ | exact .inr ⟨rfl, rfl, by simp; done⟩ | apply And.intro)) (by repeat' (first | exact trivial | rfl | exact (tkC_ren.1 _ _).symm | (simp; done) | apply And.intro)) (by first | exact .inl rfl | (refine .inr ⟨trivial, ?_⟩; first | (intro row h; rcases List.mem_singleton.1 h with rfl; exact nvB _) | (intro row h; cases h; done) | (simp; done)) | (refine .inr ⟨by simp [nvP, nvP.nvPs, nvD, nilS, errno], ?_⟩; first | (intro row h; rcases List.mem_singleton.1 h with rfl; exact nvB _) | (intro row h; cases h; done) | (simp [nvRow, nvD, nvP]; done))) ?_
  simp only [u64, tkC_ren, am, simprocAttr, tys]
  refine ACall.of (refNum (tS r 4) (hBj 4)) [2] [] rfl (by simp) (by simp) (by simp) (by repeat' (first | exact trivial | exact .inl rfl | exact .inr rfl | exact .inr ⟨rfl, rfl, rfl, by simp; done⟩ | exact .inr ⟨rfl, by simp; done⟩ | exact .inr ⟨rfl, rfl, by simp; done⟩ | apply And.intro)) (by repeat' (first | exact trivial | rfl | exact (tkC_ren.1 _ _).symm | (simp; done) | apply And.intro)) (by first | exact .inl rfl | (refine .inr ⟨trivial, ?_⟩; first | (intro row h; rcases List.mem_singleton.1 h with rfl; exact nvB _) | (intro row h; cases h; done) | (simp; done)) | (refine .inr ⟨by simp [nvP, nvP.nvPs, nvD, nilS, errno], ?_⟩; first | (intro row h; rcases List.mem_singleton.1 h with rfl; exact nvB _) | (intro row h; cases h; done) | (simp [nvRow, nvD, nvP]; done))) ?_
  simp only [u64, tkC_ren, am, simprocAttr, tys]
  refine ACall.of (refNum (tS r 5) (hBj 5)) [2] [] rfl (by simp) (by simp) (by simp) (by repeat' (first | exact trivial | exact .inl rfl | exact .inr rfl | exact .inr ⟨rfl, rfl, rfl, by simp; done⟩ | exact .inr ⟨rfl, by simp; done⟩ | exact .inr ⟨rfl, rfl, by simp; done⟩ | apply And.intro)) (by repeat' (first | exact trivial | rfl | exact (tkC_ren.1 _ _).symm | (simp; done) | apply And.intro)) (by first | exact .inl rfl | (refine .inr ⟨trivial, ?_⟩; first | (intro row h; rcases List.mem_singleton.1 h with rfl; exact nvB _) | (intro row h; cases h; done) | (simp; done)) | (refine .inr ⟨by simp [nvP, nvP.nvPs, nvD, nilS, errno], ?_⟩; first | (intro row h; rcases List.mem_singleton.1 h with rfl; exact nvB _) | (intro row h; cases h; done) | (simp [nvRow, nvD, nvP]; done))) ?_
  simp only [u64, tkC_ren, am, simprocAttr, tys]
  refine ACall.of (refNum (tS r 6) (hBj 6)) [2] [] rfl (by simp) (by simp) (by simp) (by repeat' (first | exact trivial | exact .inl rfl | exact .inr rfl | exact .inr ⟨rfl, rfl, rfl, by simp; done⟩ | exact .inr ⟨rfl, by simp; done⟩ | exact .inr ⟨rfl, rfl, by simp; done⟩ | apply And.intro)) (by repeat' (first | exact trivial | rfl | exact (tkC_ren.1 _ _).symm | (simp; done) | apply And.intro)) (by first | exact .inl rfl | (refine .inr ⟨trivial, ?_⟩; first | (intro row h; rcases List.mem_singleton.1 h with rfl; exact nvB _) | (intro row h; cases h; done) | (simp; done)) | (refine .inr ⟨by simp [nvP, nvP.nvPs, nvD, nilS, errno], ?_⟩; first | (intro row h; rcases List.mem_singleton.1 h with rfl; exact nvB _) | (intro row h; cases h; done) | (simp [nvRow, nvD, nvP]; done))) ?_
  simp only [u64, tkC_ren, hq, am, simprocAttr, tys]
  refine ALoopW.intro 146 0 (ι := { i : Nat // i ≤ 7 }) (fun i => [(0, byts b), (2, .ptr 0 0), (7, .ptr 1 0), (8, .ptr 2 0), (9, int i.1)]) (fun i => [.box (failC.map .d), .box (cA k r (7 + i.1)), .box (tkC (tS r (7 + i.1)))]) (fun i => 7 - i.1) ⟨0, by omega⟩ [] [0, 1, 2] ?_ (fun ⟨i, hi⟩ => ?_)
  · exact ⟨rfl, rfl, by simp, (fun i hi => absurd hi (Nat.not_lt_zero _)), ⟨.inr rfl, .inr rfl, .inr rfl, .inr rfl, .inr rfl, trivial⟩, ⟨.inr ⟨by decide, rfl⟩, .inr ⟨by decide, rfl⟩, .inr ⟨by decide, tkC_row _ _ _ _⟩, trivial⟩, rfl, by decide, rfl, by simp [scRow, tkC_scs, scBs, scB, cA, cB, rowsV, int, bool]⟩
  simp only at hi ⊢
  have hcases : i = 0 ∨ i = 1 ∨ i = 2 ∨ i = 3 ∨ i = 4 ∨ i = 5 ∨ i = 6 ∨ i = 7 := by omega
  rcases hcases with rfl | rfl | rfl | rfl | rfl | rfl | rfl | rfl
  · simp only [cA, vA, int, bool, byts, am, simprocAttr, tys]
    refine ACall.of (refNum (tS r 7) (hBj 7)) [2] [] rfl (by simp) (by simp) (by simp) (by repeat' (first | exact trivial | exact .inl rfl | exact .inr rfl | exact .inr ⟨rfl, rfl, rfl, by simp; done⟩ | exact .inr ⟨rfl, by simp; done⟩ | exact .inr ⟨rfl, rfl, by simp; done⟩ | apply And.intro)) (by repeat' (first | exact trivial | rfl | exact (tkC_ren.1 _ _).symm | (simp; done) | apply And.intro)) (by first | exact .inl rfl | (refine .inr ⟨trivial, ?_⟩; first | (intro row h; rcases List.mem_singleton.1 h with rfl; exact nvB _) | (intro row h; cases h; done) | (simp; done)) | (refine .inr ⟨by simp [nvP, nvP.nvPs, nvD, nilS, errno], ?_⟩; first | (intro row h; rcases List.mem_singleton.1 h with rfl; exact nvB _) | (intro row h; cases h; done) | (simp [nvRow, nvD, nvP]; done))) ?_
    simp only [u64, cA, vA, int, bool, tkC_ren, am, simprocAttr, tys]
    exact ⟨⟨1, by omega⟩, [], [0, 1, 2], ⟨rfl, rfl, by simp, (fun i hi => absurd hi (Nat.not_lt_zero _)), ⟨.inr rfl, .inr rfl, .inr rfl, .inr rfl, .inr rfl, trivial⟩, ⟨.inr ⟨by decide, rfl⟩, .inr ⟨by decide, rfl⟩, .inr ⟨by decide, tkC_row _ _ _ _⟩, trivial⟩, rfl, by decide, rfl, by simp [scRow, tkC_scs, scBs, scB, cA, cB, rowsV, int, bool]⟩, by show 7 - 1 < 7 - 0; omega⟩
  · simp only [cA, vA, int, bool, byts, am, simprocAttr, tys]
    refine ACall.of (refNum (tS r 8) (hBj 8)) [2] [] rfl (by simp) (by simp) (by simp) (by repeat' (first | exact trivial | exact .inl rfl | exact .inr rfl | exact .inr ⟨rfl, rfl, rfl, by simp; done⟩ | exact .inr ⟨rfl, by simp; done⟩ | exact .inr ⟨rfl, rfl, by simp; done⟩ | apply And.intro)) (by repeat' (first | exact trivial | rfl | exact (tkC_ren.1 _ _).symm | (simp; done) | apply And.intro)) (by first | exact .inl rfl | (refine .inr ⟨trivial, ?_⟩; first | (intro row h; rcases List.mem_singleton.1 h with rfl; exact nvB _) | (intro row h; cases h; done) | (simp; done)) | (refine .inr ⟨by simp [nvP, nvP.nvPs, nvD, nilS, errno], ?_⟩; first | (intro row h; rcases List.mem_singleton.1 h with rfl; exact nvB _) | (intro row h; cases h; done) | (simp [nvRow, nvD, nvP]; done))) ?_
    simp only [u64, cA, vA, int, bool, tkC_ren, am, simprocAttr, tys]
    exact ⟨⟨2, by omega⟩, [], [0, 1, 2], ⟨rfl, rfl, by simp, (fun i hi => absurd hi (Nat.not_lt_zero _)), ⟨.inr rfl, .inr rfl, .inr rfl, .inr rfl, .inr rfl, trivial⟩, ⟨.inr ⟨by decide, rfl⟩, .inr ⟨by decide, rfl⟩, .inr ⟨by decide, tkC_row _ _ _ _⟩, trivial⟩, rfl, by decide, rfl, by simp [scRow, tkC_scs, scBs, scB, cA, cB, rowsV, int, bool]⟩, by show 7 - 2 < 7 - 1; omega⟩
  · simp only [cA, vA, int, bool, byts, am, simprocAttr, tys]
    refine ACall.of (refNum (tS r 9) (hBj 9)) [2] [] rfl (by simp) (by simp) (by simp) (by repeat' (first | exact trivial | exact .inl rfl | exact .inr rfl | exact .inr ⟨rfl, rfl, rfl, by simp; done⟩ | exact .inr ⟨rfl, by simp; done⟩ | exact .inr ⟨rfl, rfl, by simp; done⟩ | apply And.intro)) (by repeat' (first | exact trivial | rfl | exact (tkC_ren.1 _ _).symm | (simp; done) | apply And.intro)) (by first | exact .inl rfl | (refine .inr ⟨trivial, ?_⟩; first | (intro row h; rcases List.mem_singleton.1 h with rfl; exact nvB _) | (intro row h; cases h; done) | (simp; done)) | (refine .inr ⟨by simp [nvP, nvP.nvPs, nvD, nilS, errno], ?_⟩; first | (intro row h; rcases List.mem_singleton.1 h with rfl; exact nvB _) | (intro row h; cases h; done) | (simp [nvRow, nvD, nvP]; done))) ?_
    simp only [u64, cA, vA, int, bool, tkC_ren, am, simprocAttr, tys]
    exact ⟨⟨3, by omega⟩, [], [0, 1, 2], ⟨rfl, rfl, by simp, (fun i hi => absurd hi (Nat.not_lt_zero _)), ⟨.inr rfl, .inr rfl, .inr rfl, .inr rfl, .inr rfl, trivial⟩, ⟨.inr ⟨by decide, rfl⟩, .inr ⟨by decide, rfl⟩, .inr ⟨by decide, tkC_row _ _ _ _⟩, trivial⟩, rfl, by decide, rfl, by simp [scRow, tkC_scs, scBs, scB, cA, cB, rowsV, int, bool]⟩, by show 7 - 3 < 7 - 2; omega⟩
  · simp only [cA, vA, int, bool, byts, am, simprocAttr, tys]
    refine ACall.of (refNum (tS r 10) (hBj 10)) [2] [] rfl (by simp) (by simp) (by simp) (by repeat' (first | exact trivial | exact .inl rfl | exact .inr rfl | exact .inr ⟨rfl, rfl, rfl, by simp; done⟩ | exact .inr ⟨rfl, by simp; done⟩ | exact .inr ⟨rfl, rfl, by simp; done⟩ | apply And.intro)) (by repeat' (first | exact trivial | rfl | exact (tkC_ren.1 _ _).symm | (simp; done) | apply And.intro)) (by first | exact .inl rfl | (refine .inr ⟨trivial, ?_⟩; first | (intro row h; rcases List.mem_singleton.1 h with rfl; exact nvB _) | (intro row h; cases h; done) | (simp; done)) | (refine .inr ⟨by simp [nvP, nvP.nvPs, nvD, nilS, errno], ?_⟩; first | (intro row h; rcases List.mem_singleton.1 h with rfl; exact nvB _) | (intro row h; cases h; done) | (simp [nvRow, nvD, nvP]; done))) ?_
    simp only [u64, cA, vA, int, bool, tkC_ren, am, simprocAttr, tys]
    exact ⟨⟨4, by omega⟩, [], [0, 1, 2], ⟨rfl, rfl, by simp, (fun i hi => absurd hi (Nat.not_lt_zero _)), ⟨.inr rfl, .inr rfl, .inr rfl, .inr rfl, .inr rfl, trivial⟩, ⟨.inr ⟨by decide, rfl⟩, .inr ⟨by decide, rfl⟩, .inr ⟨by decide, tkC_row _ _ _ _⟩, trivial⟩, rfl, by decide, rfl, by simp [scRow, tkC_scs, scBs, scB, cA, cB, rowsV, int, bool]⟩, by show 7 - 4 < 7 - 3; omega⟩
  · simp only [cA, vA, int, bool, byts, am, simprocAttr, tys]
    refine ACall.of (refNum (tS r 11) (hBj 11)) [2] [] rfl (by simp) (by simp) (by simp) (by repeat' (first | exact trivial | exact .inl rfl | exact .inr rfl | exact .inr ⟨rfl, rfl, rfl, by simp; done⟩ | exact .inr ⟨rfl, by simp; done⟩ | exact .inr ⟨rfl, rfl, by simp; done⟩ | apply And.intro)) (by repeat' (first | exact trivial | rfl | exact (tkC_ren.1 _ _).symm | (simp; done) | apply And.intro)) (by first | exact .inl rfl | (refine .inr ⟨trivial, ?_⟩; first | (intro row h; rcases List.mem_singleton.1 h with rfl; exact nvB _) | (intro row h; cases h; done) | (simp; done)) | (refine .inr ⟨by simp [nvP, nvP.nvPs, nvD, nilS, errno], ?_⟩; first | (intro row h; rcases List.mem_singleton.1 h with rfl; exact nvB _) | (intro row h; cases h; done) | (simp [nvRow, nvD, nvP]; done))) ?_
    simp only [u64, cA, vA, int, bool, tkC_ren, am, simprocAttr, tys]
    exact ⟨⟨5, by omega⟩, [], [0, 1, 2], ⟨rfl, rfl, by simp, (fun i hi => absurd hi (Nat.not_lt_zero _)), ⟨.inr rfl, .inr rfl, .inr rfl, .inr rfl, .inr rfl, trivial⟩, ⟨.inr ⟨by decide, rfl⟩, .inr ⟨by decide, rfl⟩, .inr ⟨by decide, tkC_row _ _ _ _⟩, trivial⟩, rfl, by decide, rfl, by simp [scRow, tkC_scs, scBs, scB, cA, cB, rowsV, int, bool]⟩, by show 7 - 5 < 7 - 4; omega⟩
  · simp only [cA, vA, int, bool, byts, am, simprocAttr, tys]
    refine ACall.of (refNum (tS r 12) (hBj 12)) [2] [] rfl (by simp) (by simp) (by simp) (by repeat' (first | exact trivial | exact .inl rfl | exact .inr rfl | exact .inr ⟨rfl, rfl, rfl, by simp; done⟩ | exact .inr ⟨rfl, by simp; done⟩ | exact .inr ⟨rfl, rfl, by simp; done⟩ | apply And.intro)) (by repeat' (first | exact trivial | rfl | exact (tkC_ren.1 _ _).symm | (simp; done) | apply And.intro)) (by first | exact .inl rfl | (refine .inr ⟨trivial, ?_⟩; first | (intro row h; rcases List.mem_singleton.1 h with rfl; exact nvB _) | (intro row h; cases h; done) | (simp; done)) | (refine .inr ⟨by simp [nvP, nvP.nvPs, nvD, nilS, errno], ?_⟩; first | (intro row h; rcases List.mem_singleton.1 h with rfl; exact nvB _) | (intro row h; cases h; done) | (simp [nvRow, nvD, nvP]; done))) ?_
    simp only [u64, cA, vA, int, bool, tkC_ren, am, simprocAttr, tys]
    exact ⟨⟨6, by omega⟩, [], [0, 1, 2], ⟨rfl, rfl, by simp, (fun i hi => absurd hi (Nat.not_lt_zero _)), ⟨.inr rfl, .inr rfl, .inr rfl, .inr rfl, .inr rfl, trivial⟩, ⟨.inr ⟨by decide, rfl⟩, .inr ⟨by decide, rfl⟩, .inr ⟨by decide, tkC_row _ _ _ _⟩, trivial⟩, rfl, by decide, rfl, by simp [scRow, tkC_scs, scBs, scB, cA, cB, rowsV, int, bool]⟩, by show 7 - 6 < 7 - 5; omega⟩
  · simp only [cA, vA, int, bool, byts, am, simprocAttr, tys]
    refine ACall.of (refNum (tS r 13) (hBj 13)) [2] [] rfl (by simp) (by simp) (by simp) (by repeat' (first | exact trivial | exact .inl rfl | exact .inr rfl | exact .inr ⟨rfl, rfl, rfl, by simp; done⟩ | exact .inr ⟨rfl, by simp; done⟩ | exact .inr ⟨rfl, rfl, by simp; done⟩ | apply And.intro)) (by repeat' (first | exact trivial | rfl | exact (tkC_ren.1 _ _).symm | (simp; done) | apply And.intro)) (by first | exact .inl rfl | (refine .inr ⟨trivial, ?_⟩; first | (intro row h; rcases List.mem_singleton.1 h with rfl; exact nvB _) | (intro row h; cases h; done) | (simp; done)) | (refine .inr ⟨by simp [nvP, nvP.nvPs, nvD, nilS, errno], ?_⟩; first | (intro row h; rcases List.mem_singleton.1 h with rfl; exact nvB _) | (intro row h; cases h; done) | (simp [nvRow, nvD, nvP]; done))) ?_
    simp only [u64, cA, vA, int, bool, tkC_ren, am, simprocAttr, tys]
    exact ⟨⟨7, by omega⟩, [], [0, 1, 2], ⟨rfl, rfl, by simp, (fun i hi => absurd hi (Nat.not_lt_zero _)), ⟨.inr rfl, .inr rfl, .inr rfl, .inr rfl, .inr rfl, trivial⟩, ⟨.inr ⟨by decide, rfl⟩, .inr ⟨by decide, rfl⟩, .inr ⟨by decide, tkC_row _ _ _ _⟩, trivial⟩, rfl, by decide, rfl, by simp [scRow, tkC_scs, scBs, scB, cA, cB, rowsV, int, bool]⟩, by show 7 - 7 < 7 - 6; omega⟩
  have eU : (numT (tS r 14)).1 = uS r 14 := rfl
  have eT : (numT (tS r 14)).2 = tS r 15 := rfl
  have hcB : cA k r 14 = cB k r (.d nlD) := rfl
  simp only [int, bool, byts, am, simprocAttr, tys]
  refine ACall.of (refNum (tS r 14) (hBj 14)) [2] [] rfl (by simp) (by simp) (by simp) (by repeat' (first | exact trivial | exact .inl rfl | exact .inr rfl | exact .inr ⟨rfl, rfl, rfl, by simp; done⟩ | exact .inr ⟨rfl, by simp; done⟩ | exact .inr ⟨rfl, rfl, by simp; done⟩ | apply And.intro)) (by repeat' (first | exact trivial | rfl | exact (tkC_ren.1 _ _).symm | (simp; done) | apply And.intro)) (by first | exact .inl rfl | (refine .inr ⟨trivial, ?_⟩; first | (intro row h; rcases List.mem_singleton.1 h with rfl; exact nvB _) | (intro row h; cases h; done) | (simp; done)) | (refine .inr ⟨by simp [nvP, nvP.nvPs, nvD, nilS, errno], ?_⟩; first | (intro row h; rcases List.mem_singleton.1 h with rfl; exact nvB _) | (intro row h; cases h; done) | (simp [nvRow, nvD, nvP]; done))) ?_
  simp only [u64, eU, eT, tkC_ren, am, simprocAttr, tys]
  have hmin : (if (301 : Int) < ((uS r 14 : Nat) : Int) then (301 : Int) else ((uS r 14 : Nat) : Int)) = ((min (uS r 14) 301 : Nat) : Int) := by
    by_cases h : 301 < uS r 14
    · rw [if_pos (by omega), Nat.min_eq_right (by omega)]; rfl
    · rw [if_neg (by omega), Nat.min_eq_left (by omega)]
  have hwm : IntKind.i64.wrap ((min (uS r 14) 301 : Nat) : Int) = ((min (uS r 14) 301 : Nat) : Int) := IntWalk.i64_in _ (by omega)
  rcases h15 : tS r 15 with _ | q
  case' none =>
    have htn : takeN b = none := by rw [ht]; exact takeB_no h15
    rw [htn]
    refine ALoopW.intro 146 0 (ι := Unit) (fun _ => [(0, byts b), (2, .ptr 0 0), (7, .ptr 1 0), (8, .ptr 2 0), (10, u64 (uS r 14)), (11, int 0)]) (fun _ => [.box (failC.map .d), .box (cB k r (.d nlD)), .box (tkC none)]) (fun _ => 0) () [] [0, 1, 2] ?_ (fun _ => ?_)
    · exact ⟨rfl, rfl, by simp, (fun i hi => absurd hi (Nat.not_lt_zero _)), ⟨.inr rfl, .inr rfl, .inr rfl, .inr rfl, .inr rfl, .inr rfl, trivial⟩, ⟨.inr ⟨by decide, rfl⟩, .inr ⟨by decide, rfl⟩, .inr ⟨by decide, tkC_row _ _ _ _⟩, trivial⟩, rfl, by decide, rfl, by simp [scRow, tkC_scs, scBs, scB, cA, cB, rowsV, int, bool]⟩
    rcases Nat.eq_zero_or_pos (min (uS r 14) 301) with hM | hM
    · have hltI : ¬ ((0 : Int) < ((min (uS r 14) 301 : Nat) : Int)) := by omega
      simp only [cB, int, bool, byts, u64, hmin, hwm, hltI, am, simprocAttr, tys]
      have fN := mkN_fit k r (l := []) (by simp) (by simp)
      rcases hr : rightN (mkN k r []) with _ | _
      · have cP := argO14 (refNPutN _ fN hr) (cellsV_cle _)
        simp only [cellsV, mkN] at cP
        refine ACall.of (cP) [] [] rfl (by simp) (by simp) (by simp) (by repeat' (first | exact trivial | exact .inl rfl | exact .inr rfl | exact .inr ⟨rfl, rfl, rfl, by simp; done⟩ | exact .inr ⟨rfl, by simp; done⟩ | exact .inr ⟨rfl, rfl, by simp; done⟩ | apply And.intro)) (by repeat' (first | exact trivial | rfl | exact (tkC_ren.1 _ _).symm | (simp; done) | apply And.intro)) (by first | exact .inl rfl | (refine .inr ⟨trivial, ?_⟩; first | (intro row h; rcases List.mem_singleton.1 h with rfl; exact nvB _) | (intro row h; cases h; done) | (simp; done)) | (refine .inr ⟨by simp [nvP, nvP.nvPs, nvD, nilS, errno], ?_⟩; first | (intro row h; rcases List.mem_singleton.1 h with rfl; exact nvB _) | (intro row h; cases h; done) | (simp [nvRow, nvD, nvP]; done))) ?_
        simp only [tkC, nilS, errno, bool, takeNV, FinR, evRes, evRVs, evRV, am, simprocAttr, tys]
        exact ⟨_, [], [], rfl, Ent.plain rfl rfl rfl trivial rfl, rfl, rfl⟩
      · have cP := argO14 (refNPut _ fN hr) (cellsV_cle _)
        simp only [cellsV, mkN] at cP
        refine ACall.of (cP) [] [] rfl (by simp) (by simp) (by simp) (by repeat' (first | exact trivial | exact .inl rfl | exact .inr rfl | exact .inr ⟨rfl, rfl, rfl, by simp; done⟩ | exact .inr ⟨rfl, by simp; done⟩ | exact .inr ⟨rfl, rfl, by simp; done⟩ | apply And.intro)) (by repeat' (first | exact trivial | rfl | exact (tkC_ren.1 _ _).symm | (simp; done) | apply And.intro)) (by first | exact .inl rfl | (refine .inr ⟨trivial, ?_⟩; first | (intro row h; rcases List.mem_singleton.1 h with rfl; exact nvB _) | (intro row h; cases h; done) | (simp; done)) | (refine .inr ⟨by simp [nvP, nvP.nvPs, nvD, nilS, errno], ?_⟩; first | (intro row h; rcases List.mem_singleton.1 h with rfl; exact nvB _) | (intro row h; cases h; done) | (simp [nvRow, nvD, nvP]; done))) ?_
        simp only [tkC, errno, bool, takeNV, FinR, evRes, evRVs, evRV, am, simprocAttr, tys]
        exact ⟨_, [], [], rfl, Ent.plain rfl rfl rfl trivial rfl, rfl, rfl⟩
    · have hltI : ((0 : Int) < ((min (uS r 14) 301 : Nat) : Int)) := by omega
      simp only [cB, int, bool, byts, u64, hmin, hwm, hltI, am, simprocAttr, tys]
      refine ACall.of (refNum none (by intro bs h; cases h)) [2] [] rfl (by simp) (by simp) (by simp) (by repeat' (first | exact trivial | exact .inl rfl | exact .inr rfl | exact .inr ⟨rfl, rfl, rfl, by simp; done⟩ | exact .inr ⟨rfl, by simp; done⟩ | exact .inr ⟨rfl, rfl, by simp; done⟩ | apply And.intro)) (by repeat' (first | exact trivial | rfl | exact (tkC_ren.1 _ _).symm | (simp; done) | apply And.intro)) (by first | exact .inl rfl | (refine .inr ⟨trivial, ?_⟩; first | (intro row h; rcases List.mem_singleton.1 h with rfl; exact nvB _) | (intro row h; cases h; done) | (simp; done)) | (refine .inr ⟨by simp [nvP, nvP.nvPs, nvD, nilS, errno], ?_⟩; first | (intro row h; rcases List.mem_singleton.1 h with rfl; exact nvB _) | (intro row h; cases h; done) | (simp [nvRow, nvD, nvP]; done))) ?_
      simp only [numT_bad, u64, tkC_ren, am, simprocAttr, tys]
      refine ACall.of (refNum none (by intro bs h; cases h)) [2] [] rfl (by simp) (by simp) (by simp) (by repeat' (first | exact trivial | exact .inl rfl | exact .inr rfl | exact .inr ⟨rfl, rfl, rfl, by simp; done⟩ | exact .inr ⟨rfl, by simp; done⟩ | exact .inr ⟨rfl, rfl, by simp; done⟩ | apply And.intro)) (by repeat' (first | exact trivial | rfl | exact (tkC_ren.1 _ _).symm | (simp; done) | apply And.intro)) (by first | exact .inl rfl | (refine .inr ⟨trivial, ?_⟩; first | (intro row h; rcases List.mem_singleton.1 h with rfl; exact nvB _) | (intro row h; cases h; done) | (simp; done)) | (refine .inr ⟨by simp [nvP, nvP.nvPs, nvD, nilS, errno], ?_⟩; first | (intro row h; rcases List.mem_singleton.1 h with rfl; exact nvB _) | (intro row h; cases h; done) | (simp [nvRow, nvD, nvP]; done))) ?_
      have hO := refOTakeE
      simp only [numT_bad, u64, tkC_ren, tkC, bool, am, simprocAttr, tys]
      refine ACall.of (hO) [] [] rfl (by simp) (by simp) (by simp) (by repeat' (first | exact trivial | exact .inl rfl | exact .inr rfl | exact .inr ⟨rfl, rfl, rfl, by simp; done⟩ | exact .inr ⟨rfl, by simp; done⟩ | exact .inr ⟨rfl, rfl, by simp; done⟩ | apply And.intro)) (by repeat' (first | exact trivial | rfl | exact (tkC_ren.1 _ _).symm | (simp; done) | apply And.intro)) (by first | exact .inl rfl | (refine .inr ⟨trivial, ?_⟩; first | (intro row h; rcases List.mem_singleton.1 h with rfl; exact nvB _) | (intro row h; cases h; done) | (simp; done)) | (refine .inr ⟨by simp [nvP, nvP.nvPs, nvD, nilS, errno], ?_⟩; first | (intro row h; rcases List.mem_singleton.1 h with rfl; exact nvB _) | (intro row h; cases h; done) | (simp [nvRow, nvD, nvP]; done))) ?_
      simp only [nilS, errno, takeNV, FinR, evRes, evRVs, evRV, am, simprocAttr, tys]
      exact ⟨_, [], [], rfl, Ent.plain rfl rfl rfl trivial rfl, rfl, rfl⟩
  have hqB : q.length ≤ r.length := hB 15 q h15
  refine ALoopW.intro 146 0 (ι := { z : Nat × List EntT × List UInt8 // z.1 ≤ min (uS r 14) 301 ∧ decN takeE z.1 q = some (z.2.1, z.2.2) }) (fun z => [(0, byts b), (2, .ptr 0 0), (7, .ptr 1 0), (8, .ptr 2 0), (10, u64 (uS r 14)), (11, int z.1.1)]) (fun z => rowsV k r z.1.2.2 z.1.2.1) (fun z => min (uS r 14) 301 - z.1.1)
    ⟨(0, [], q), by omega, rfl⟩ [] [0, 1, 2] ?_ (fun ⟨⟨i, l, bs⟩, hk, hd⟩ => ?_)
  · exact ⟨rfl, rfl, by simp, (fun i hi => absurd hi (Nat.not_lt_zero _)), ⟨.inr rfl, .inr rfl, .inr rfl, .inr rfl, .inr rfl, .inr rfl, trivial⟩, ⟨.inr ⟨by decide, rfl⟩, .inr ⟨by decide, rfl⟩, .inr ⟨by decide, tkC_row _ _ _ _⟩, trivial⟩, rfl, by decide, rfl, by simp [scRow, tkC_scs, scBs, scB, cA, cB, rowsV, int, bool]⟩
  simp only at hk hd ⊢
  obtain ⟨d1, d2, d3, d4⟩ := decE_some _ _ _ _ hd
  by_cases hL : l = []
  · subst hL
    rcases Nat.lt_or_ge i (min (uS r 14) 301) with hlt | hge
    · skip
      have hltI : ((i : Int) < ((min (uS r 14) 301 : Nat) : Int)) := by omega
      have e1 : IntKind.i64.wrap ((i : Int) + 1) = ((i + 1 : Nat) : Int) := by rw [IntWalk.i64_in _ (by omega)]; simp
      have hE2 := takeE_two bs
      have hB0 : TkB bs.length (some bs) := fun x h => by cases h; exact Nat.le_refl _
      have hB1 := numT_B _ hB0
      have hB2 := numT_B _ hB1
      simp only [rowsV, cB, int, bool, byts, u64, hmin, hwm, hltI, am, simprocAttr, tys]
      refine ACall.of (refNum (some bs) (hB0.le (by omega))) [2] [] rfl (by simp) (by simp) (by simp) (by repeat' (first | exact trivial | exact .inl rfl | exact .inr rfl | exact .inr ⟨rfl, rfl, rfl, by simp; done⟩ | exact .inr ⟨rfl, by simp; done⟩ | exact .inr ⟨rfl, rfl, by simp; done⟩ | apply And.intro)) (by repeat' (first | exact trivial | rfl | exact (tkC_ren.1 _ _).symm | (simp; done) | apply And.intro)) (by first | exact .inl rfl | (refine .inr ⟨trivial, ?_⟩; first | (intro row h; rcases List.mem_singleton.1 h with rfl; exact nvB _) | (intro row h; cases h; done) | (simp; done)) | (refine .inr ⟨by simp [nvP, nvP.nvPs, nvD, nilS, errno], ?_⟩; first | (intro row h; rcases List.mem_singleton.1 h with rfl; exact nvB _) | (intro row h; cases h; done) | (simp [nvRow, nvD, nvP]; done))) ?_
      simp only [u64, tkC_ren, am, simprocAttr, tys]
      refine ACall.of (refNum (numT (some bs)).2 (hB1.le (by omega))) [2] [] rfl (by simp) (by simp) (by simp) (by repeat' (first | exact trivial | exact .inl rfl | exact .inr rfl | exact .inr ⟨rfl, rfl, rfl, by simp; done⟩ | exact .inr ⟨rfl, by simp; done⟩ | exact .inr ⟨rfl, rfl, by simp; done⟩ | apply And.intro)) (by repeat' (first | exact trivial | rfl | exact (tkC_ren.1 _ _).symm | (simp; done) | apply And.intro)) (by first | exact .inl rfl | (refine .inr ⟨trivial, ?_⟩; first | (intro row h; rcases List.mem_singleton.1 h with rfl; exact nvB _) | (intro row h; cases h; done) | (simp; done)) | (refine .inr ⟨by simp [nvP, nvP.nvPs, nvD, nilS, errno], ?_⟩; first | (intro row h; rcases List.mem_singleton.1 h with rfl; exact nvB _) | (intro row h; cases h; done) | (simp [nvRow, nvD, nvP]; done))) ?_
      rcases h2 : (numT (numT (some bs)).2).2 with _ | r2
      · rw [h2] at hE2
        have ht2 : takeN b = none := by rw [ht]; exact takeB_nd h15 (j := i + 1) (by omega) (fun _ => by rw [decN_snoc, hd]; simp only [hE2])
        rw [ht2]
        have hO := refOTakeE
        simp only [u64, tkC_ren, tkC, bool, am, simprocAttr, tys]
        refine ACall.of (hO) [] [] rfl (by simp) (by simp) (by simp) (by repeat' (first | exact trivial | exact .inl rfl | exact .inr rfl | exact .inr ⟨rfl, rfl, rfl, by simp; done⟩ | exact .inr ⟨rfl, by simp; done⟩ | exact .inr ⟨rfl, rfl, by simp; done⟩ | apply And.intro)) (by repeat' (first | exact trivial | rfl | exact (tkC_ren.1 _ _).symm | (simp; done) | apply And.intro)) (by first | exact .inl rfl | (refine .inr ⟨trivial, ?_⟩; first | (intro row h; rcases List.mem_singleton.1 h with rfl; exact nvB _) | (intro row h; cases h; done) | (simp; done)) | (refine .inr ⟨by simp [nvP, nvP.nvPs, nvD, nilS, errno], ?_⟩; first | (intro row h; rcases List.mem_singleton.1 h with rfl; exact nvB _) | (intro row h; cases h; done) | (simp [nvRow, nvD, nvP]; done))) ?_
        simp only [nilS, errno, takeNV, FinR, evRes, evRVs, evRV, am, simprocAttr, tys]
        exact ⟨_, [], [], rfl, Ent.plain rfl rfl rfl trivial rfl, rfl, rfl⟩
      rw [h2] at hE2
      simp only at hE2
      have hr2 : r2.length ≤ bs.length := hB2 r2 h2
      have hO := refOTake r2 (by omega)
      rcases h3 : takeO r2 with _ | ⟨o, r3⟩
      · rw [h3] at hE2 hO
        have ht2 : takeN b = none := by rw [ht]; exact takeB_nd h15 (j := i + 1) (by omega) (fun _ => by rw [decN_snoc, hd]; simp only [hE2])
        rw [ht2]
        simp only [takeOR, encO, byts] at hO
        simp only [u64, tkC_ren, tkC, bool, byts, am, simprocAttr, tys]
        refine ACall.of (hO) [] [] rfl (by simp) (by simp) (by simp) (by repeat' (first | exact trivial | exact .inl rfl | exact .inr rfl | exact .inr ⟨rfl, rfl, rfl, by simp; done⟩ | exact .inr ⟨rfl, by simp; done⟩ | exact .inr ⟨rfl, rfl, by simp; done⟩ | apply And.intro)) (by repeat' (first | exact trivial | rfl | exact (tkC_ren.1 _ _).symm | (simp; done) | apply And.intro)) (by first | exact .inl rfl | (refine .inr ⟨trivial, ?_⟩; first | (intro row h; rcases List.mem_singleton.1 h with rfl; exact nvB _) | (intro row h; cases h; done) | (simp; done)) | (refine .inr ⟨by simp [nvP, nvP.nvPs, nvD, nilS, errno], ?_⟩; first | (intro row h; rcases List.mem_singleton.1 h with rfl; exact nvB _) | (intro row h; cases h; done) | (simp [nvRow, nvD, nvP]; done))) ?_
        simp only [nilS, errno, takeNV, FinR, evRes, evRVs, evRV, am, simprocAttr, tys]
        exact ⟨_, [], [], rfl, Ent.plain rfl rfl rfl trivial rfl, rfl, rfl⟩
      rw [h3] at hE2 hO
      simp only at hE2
      have hd' : decN takeE (i + 1) q = some ([] ++ [(numI (numT (some bs)).1, numI (numT (numT (some bs)).2).1, o, ())], r3) := by rw [decN_snoc, hd]; simp only [hE2]
      simp only [takeOR, encO, byts] at hO
      simp only [u64, tkC_ren, tkC, bool, byts, am, simprocAttr, tys]
      refine ACall.of (hO) [] [] rfl (by simp) (by simp) (by simp) (by repeat' (first | exact trivial | exact .inl rfl | exact .inr rfl | exact .inr ⟨rfl, rfl, rfl, by simp; done⟩ | exact .inr ⟨rfl, by simp; done⟩ | exact .inr ⟨rfl, rfl, by simp; done⟩ | apply And.intro)) (by repeat' (first | exact trivial | rfl | exact (tkC_ren.1 _ _).symm | (simp; done) | apply And.intro)) (by first | exact .inl rfl | (refine .inr ⟨trivial, ?_⟩; first | (intro row h; rcases List.mem_singleton.1 h with rfl; exact nvB _) | (intro row h; cases h; done) | (simp; done)) | (refine .inr ⟨by simp [nvP, nvP.nvPs, nvD, nilS, errno], ?_⟩; first | (intro row h; rcases List.mem_singleton.1 h with rfl; exact nvB _) | (intro row h; cases h; done) | (simp [nvRow, nvD, nvP]; done))) ?_
      simp only [nilS, errno, e1, List.length_map, am, simprocAttr, tys]
      refine ⟨⟨(i + 1, [] ++ [(numI (numT (some bs)).1, numI (numT (numT (some bs)).2).1, o, ())], r3), by omega, hd'⟩, [], [0, 1, 2, 6], ?_, by show min (uS r 14) 301 - (i + 1) < min (uS r 14) 301 - i; omega⟩
      show Ent _ _ _ _ _ _ (rowsV k r r3 ([] ++ [(numI (numT (some bs)).1, numI (numT (numT (some bs)).2).1, o, ())]))
      rw [rowsV_ne k r r3 (by simp)]
      exact ⟨rfl, rfl, by simp, (fun i hi => absurd hi (Nat.not_lt_zero _)), ⟨.inr rfl, .inr rfl, .inr rfl, .inr rfl, .inr rfl, .inr rfl, trivial⟩, ⟨.inr ⟨by decide, rfl⟩, .inr ⟨by decide, rfl⟩, .inr ⟨by decide, rfl⟩, .inr ⟨by decide, rfl⟩, trivial⟩, rfl, by decide, rfl, by simp [scRow, tkC_scs, scBs, scB, cA, cB, int, bool]⟩
    · have hltI : ¬ ((i : Int) < ((min (uS r 14) 301 : Nat) : Int)) := by omega
      have hdM : decN takeE (min (uS r 14) 301) q = some ([], bs) := by rw [show min (uS r 14) 301 = i from by omega]; exact hd
      simp only [rowsV, cB, int, bool, byts, u64, hmin, hwm, hltI, am, simprocAttr, tys]
      have fN := mkN_fit k r (l := []) (by omega) d3
      have hend := take_end ht h15 hdM
      rcases hr : rightN (mkN k r []) with _ | _
      · rw [hr, if_neg (fun h => Bool.noConfusion h.1)] at hend
        rw [hend]
        have cP := argO14 (refNPutN _ fN hr) (cellsV_cle _)
        simp only [cellsV, mkN] at cP
        refine ACall.of (cP) [] [] rfl (by simp) (by simp) (by simp) (by repeat' (first | exact trivial | exact .inl rfl | exact .inr rfl | exact .inr ⟨rfl, rfl, rfl, by simp; done⟩ | exact .inr ⟨rfl, by simp; done⟩ | exact .inr ⟨rfl, rfl, by simp; done⟩ | apply And.intro)) (by repeat' (first | exact trivial | rfl | exact (tkC_ren.1 _ _).symm | (simp; done) | apply And.intro)) (by first | exact .inl rfl | (refine .inr ⟨trivial, ?_⟩; first | (intro row h; rcases List.mem_singleton.1 h with rfl; exact nvB _) | (intro row h; cases h; done) | (simp; done)) | (refine .inr ⟨by simp [nvP, nvP.nvPs, nvD, nilS, errno], ?_⟩; first | (intro row h; rcases List.mem_singleton.1 h with rfl; exact nvB _) | (intro row h; cases h; done) | (simp [nvRow, nvD, nvP]; done))) ?_
        simp only [tkC, nilS, errno, bool, takeNV, FinR, evRes, evRVs, evRV, am, simprocAttr, tys]
        exact ⟨_, [], [], rfl, Ent.plain rfl rfl rfl trivial rfl, rfl, rfl⟩
      · have cP := argO14 (refNPut _ fN hr) (cellsV_cle _)
        have hV : cellsV (mkN k r []) = cellsV (mkN k r []) := rfl
        conv at hV => rhs; simp only [cellsV, mkN]
        obtain ⟨w, hw⟩ : ∃ w, sealed (bodyN (mkN k r [])) = w := ⟨_, rfl⟩
        rw [hw] at hend cP
        simp only [cellsV, mkN] at cP
        by_cases hE : w = b
        · rw [hr, if_pos ⟨rfl, hE⟩] at hend
          have hbe : (w == b) = true := by rw [hE]; exact beq_self_eq_true b
          rw [hend]
          refine ACall.of (cP) [] [] rfl (by simp) (by simp) (by simp) (by repeat' (first | exact trivial | exact .inl rfl | exact .inr rfl | exact .inr ⟨rfl, rfl, rfl, by simp; done⟩ | exact .inr ⟨rfl, by simp; done⟩ | exact .inr ⟨rfl, rfl, by simp; done⟩ | apply And.intro)) (by repeat' (first | exact trivial | rfl | exact (tkC_ren.1 _ _).symm | (simp; done) | apply And.intro)) (by first | exact .inl rfl | (refine .inr ⟨trivial, ?_⟩; first | (intro row h; rcases List.mem_singleton.1 h with rfl; exact nvB _) | (intro row h; cases h; done) | (simp; done)) | (refine .inr ⟨by simp [nvP, nvP.nvPs, nvD, nilS, errno], ?_⟩; first | (intro row h; rcases List.mem_singleton.1 h with rfl; exact nvB _) | (intro row h; cases h; done) | (simp [nvRow, nvD, nvP]; done))) ?_
          simp only [tkC, bool, errno, strOf_encB, bl_toList, hbe, takeNV, hV, FinR, evRes, evRVs, evRV, am, simprocAttr, tys]
          exact ⟨_, [], [], rfl, Ent.plain rfl rfl rfl trivial rfl, rfl, rfl⟩
        · rw [hr, if_neg (fun h => hE h.2)] at hend
          have hbe : (w == b) = false := beq_eq_false_iff_ne.2 hE
          rw [hend]
          refine ACall.of (cP) [] [] rfl (by simp) (by simp) (by simp) (by repeat' (first | exact trivial | exact .inl rfl | exact .inr rfl | exact .inr ⟨rfl, rfl, rfl, by simp; done⟩ | exact .inr ⟨rfl, by simp; done⟩ | exact .inr ⟨rfl, rfl, by simp; done⟩ | apply And.intro)) (by repeat' (first | exact trivial | rfl | exact (tkC_ren.1 _ _).symm | (simp; done) | apply And.intro)) (by first | exact .inl rfl | (refine .inr ⟨trivial, ?_⟩; first | (intro row h; rcases List.mem_singleton.1 h with rfl; exact nvB _) | (intro row h; cases h; done) | (simp; done)) | (refine .inr ⟨by simp [nvP, nvP.nvPs, nvD, nilS, errno], ?_⟩; first | (intro row h; rcases List.mem_singleton.1 h with rfl; exact nvB _) | (intro row h; cases h; done) | (simp [nvRow, nvD, nvP]; done))) ?_
          simp only [tkC, bool, errno, strOf_encB, bl_toList, hbe, takeNV, FinR, evRes, evRVs, evRV, am, simprocAttr, tys]
          exact ⟨_, [], [], rfl, Ent.plain rfl rfl rfl trivial rfl, rfl, rfl⟩
  · rw [rowsV_ne k r bs hL]
    rcases Nat.lt_or_ge i (min (uS r 14) 301) with hlt | hge
    · skip
      have hltI : ((i : Int) < ((min (uS r 14) 301 : Nat) : Int)) := by omega
      have e1 : IntKind.i64.wrap ((i : Int) + 1) = ((i + 1 : Nat) : Int) := by rw [IntWalk.i64_in _ (by omega)]; simp
      have hE2 := takeE_two bs
      have hB0 : TkB bs.length (some bs) := fun x h => by cases h; exact Nat.le_refl _
      have hB1 := numT_B _ hB0
      have hB2 := numT_B _ hB1
      simp only [cB, int, bool, byts, u64, hmin, hwm, hltI, am, simprocAttr, tys]
      refine ACall.of (refNum (some bs) (hB0.le (by omega))) [2] [] rfl (by simp) (by simp) (by simp) (by repeat' (first | exact trivial | exact .inl rfl | exact .inr rfl | exact .inr ⟨rfl, rfl, rfl, by simp; done⟩ | exact .inr ⟨rfl, by simp; done⟩ | exact .inr ⟨rfl, rfl, by simp; done⟩ | apply And.intro)) (by repeat' (first | exact trivial | rfl | exact (tkC_ren.1 _ _).symm | (simp; done) | apply And.intro)) (by first | exact .inl rfl | (refine .inr ⟨trivial, ?_⟩; first | (intro row h; rcases List.mem_singleton.1 h with rfl; exact nvB _) | (intro row h; cases h; done) | (simp; done)) | (refine .inr ⟨by simp [nvP, nvP.nvPs, nvD, nilS, errno], ?_⟩; first | (intro row h; rcases List.mem_singleton.1 h with rfl; exact nvB _) | (intro row h; cases h; done) | (simp [nvRow, nvD, nvP]; done))) ?_
      simp only [u64, tkC_ren, am, simprocAttr, tys]
      refine ACall.of (refNum (numT (some bs)).2 (hB1.le (by omega))) [2] [] rfl (by simp) (by simp) (by simp) (by repeat' (first | exact trivial | exact .inl rfl | exact .inr rfl | exact .inr ⟨rfl, rfl, rfl, by simp; done⟩ | exact .inr ⟨rfl, by simp; done⟩ | exact .inr ⟨rfl, rfl, by simp; done⟩ | apply And.intro)) (by repeat' (first | exact trivial | rfl | exact (tkC_ren.1 _ _).symm | (simp; done) | apply And.intro)) (by first | exact .inl rfl | (refine .inr ⟨trivial, ?_⟩; first | (intro row h; rcases List.mem_singleton.1 h with rfl; exact nvB _) | (intro row h; cases h; done) | (simp; done)) | (refine .inr ⟨by simp [nvP, nvP.nvPs, nvD, nilS, errno], ?_⟩; first | (intro row h; rcases List.mem_singleton.1 h with rfl; exact nvB _) | (intro row h; cases h; done) | (simp [nvRow, nvD, nvP]; done))) ?_
      rcases h2 : (numT (numT (some bs)).2).2 with _ | r2
      · rw [h2] at hE2
        have ht2 : takeN b = none := by rw [ht]; exact takeB_nd h15 (j := i + 1) (by omega) (fun _ => by rw [decN_snoc, hd]; simp only [hE2])
        rw [ht2]
        have hO := refOTakeE
        simp only [u64, tkC_ren, tkC, bool, am, simprocAttr, tys]
        refine ACall.of (hO) [] [] rfl (by simp) (by simp) (by simp) (by repeat' (first | exact trivial | exact .inl rfl | exact .inr rfl | exact .inr ⟨rfl, rfl, rfl, by simp; done⟩ | exact .inr ⟨rfl, by simp; done⟩ | exact .inr ⟨rfl, rfl, by simp; done⟩ | apply And.intro)) (by repeat' (first | exact trivial | rfl | exact (tkC_ren.1 _ _).symm | (simp; done) | apply And.intro)) (by first | exact .inl rfl | (refine .inr ⟨trivial, ?_⟩; first | (intro row h; rcases List.mem_singleton.1 h with rfl; exact nvB _) | (intro row h; cases h; done) | (simp; done)) | (refine .inr ⟨by simp [nvP, nvP.nvPs, nvD, nilS, errno], ?_⟩; first | (intro row h; rcases List.mem_singleton.1 h with rfl; exact nvB _) | (intro row h; cases h; done) | (simp [nvRow, nvD, nvP]; done))) ?_
        simp only [nilS, errno, takeNV, FinR, evRes, evRVs, evRV, am, simprocAttr, tys]
        exact ⟨_, [], [], rfl, Ent.plain rfl rfl rfl trivial rfl, rfl, rfl⟩
      rw [h2] at hE2
      simp only at hE2
      have hr2 : r2.length ≤ bs.length := hB2 r2 h2
      have hO := refOTake r2 (by omega)
      rcases h3 : takeO r2 with _ | ⟨o, r3⟩
      · rw [h3] at hE2 hO
        have ht2 : takeN b = none := by rw [ht]; exact takeB_nd h15 (j := i + 1) (by omega) (fun _ => by rw [decN_snoc, hd]; simp only [hE2])
        rw [ht2]
        simp only [takeOR, encO, byts] at hO
        simp only [u64, tkC_ren, tkC, bool, byts, am, simprocAttr, tys]
        refine ACall.of (hO) [] [] rfl (by simp) (by simp) (by simp) (by repeat' (first | exact trivial | exact .inl rfl | exact .inr rfl | exact .inr ⟨rfl, rfl, rfl, by simp; done⟩ | exact .inr ⟨rfl, by simp; done⟩ | exact .inr ⟨rfl, rfl, by simp; done⟩ | apply And.intro)) (by repeat' (first | exact trivial | rfl | exact (tkC_ren.1 _ _).symm | (simp; done) | apply And.intro)) (by first | exact .inl rfl | (refine .inr ⟨trivial, ?_⟩; first | (intro row h; rcases List.mem_singleton.1 h with rfl; exact nvB _) | (intro row h; cases h; done) | (simp; done)) | (refine .inr ⟨by simp [nvP, nvP.nvPs, nvD, nilS, errno], ?_⟩; first | (intro row h; rcases List.mem_singleton.1 h with rfl; exact nvB _) | (intro row h; cases h; done) | (simp [nvRow, nvD, nvP]; done))) ?_
        simp only [nilS, errno, takeNV, FinR, evRes, evRVs, evRV, am, simprocAttr, tys]
        exact ⟨_, [], [], rfl, Ent.plain rfl rfl rfl trivial rfl, rfl, rfl⟩
      rw [h3] at hE2 hO
      simp only at hE2
      have hd' : decN takeE (i + 1) q = some (l ++ [(numI (numT (some bs)).1, numI (numT (numT (some bs)).2).1, o, ())], r3) := by rw [decN_snoc, hd]; simp only [hE2]
      simp only [takeOR, encO, byts] at hO
      simp only [u64, tkC_ren, tkC, bool, byts, am, simprocAttr, tys]
      refine ACall.of (hO) [] [] rfl (by simp) (by simp) (by simp) (by repeat' (first | exact trivial | exact .inl rfl | exact .inr rfl | exact .inr ⟨rfl, rfl, rfl, by simp; done⟩ | exact .inr ⟨rfl, by simp; done⟩ | exact .inr ⟨rfl, rfl, by simp; done⟩ | apply And.intro)) (by repeat' (first | exact trivial | rfl | exact (tkC_ren.1 _ _).symm | (simp; done) | apply And.intro)) (by first | exact .inl rfl | (refine .inr ⟨trivial, ?_⟩; first | (intro row h; rcases List.mem_singleton.1 h with rfl; exact nvB _) | (intro row h; cases h; done) | (simp; done)) | (refine .inr ⟨by simp [nvP, nvP.nvPs, nvD, nilS, errno], ?_⟩; first | (intro row h; rcases List.mem_singleton.1 h with rfl; exact nvB _) | (intro row h; cases h; done) | (simp [nvRow, nvD, nvP]; done))) ?_
      simp only [nilS, errno, e1, List.length_map, am, simprocAttr, tys]
      refine ⟨by omega, ?_⟩
      refine ⟨⟨(i + 1, l ++ [(numI (numT (some bs)).1, numI (numT (numT (some bs)).2).1, o, ())], r3), by omega, hd'⟩, [], [0, 1, 2, 7], ?_, by show min (uS r 14) 301 - (i + 1) < min (uS r 14) 301 - i; omega⟩
      show Ent _ _ _ _ _ _ (rowsV k r r3 (l ++ [(numI (numT (some bs)).1, numI (numT (numT (some bs)).2).1, o, ())]))
      rw [rowsV_ne k r r3 (by simp)]
      exact ⟨rfl, rfl, by simp, (fun i hi => absurd hi (Nat.not_lt_zero _)), ⟨.inr rfl, .inr rfl, .inr rfl, .inr rfl, .inr rfl, .inr rfl, trivial⟩, ⟨.inr ⟨by decide, rfl⟩, .inr ⟨by decide, rfl⟩, .inr ⟨by decide, rfl⟩, .inr ⟨by decide, by show Row.own 7 (l.map encE ++ _) = Row.own 7 _; rw [List.map_append]; rfl⟩, trivial⟩, rfl, by decide, rfl, by simp [scRow, tkC_scs, scBs, scB, cA, cB, int, bool]⟩
    · have hltI : ¬ ((i : Int) < ((min (uS r 14) 301 : Nat) : Int)) := by omega
      have hdM : decN takeE (min (uS r 14) 301) q = some (l, bs) := by rw [show min (uS r 14) 301 = i from by omega]; exact hd
      simp only [cB, int, bool, byts, u64, hmin, hwm, hltI, am, simprocAttr, tys]
      have fN := mkN_fit k r (l := l) (by omega) d3
      have hend := take_end ht h15 hdM
      rcases hr : rightN (mkN k r l) with _ | _
      · rw [hr, if_neg (fun h => Bool.noConfusion h.1)] at hend
        rw [hend]
        have cP := refNPutN _ fN hr
        simp only [encN, mkN] at cP
        refine ACall.frz [3] ?_
        simp only [am, simprocAttr, tys]
        refine ACall.of (cP) [] [] rfl (by simp) (by simp) (by simp) (by repeat' (first | exact trivial | exact .inl rfl | exact .inr rfl | exact .inr ⟨rfl, rfl, rfl, by simp; done⟩ | exact .inr ⟨rfl, by simp; done⟩ | exact .inr ⟨rfl, rfl, by simp; done⟩ | apply And.intro)) (by repeat' (first | exact trivial | rfl | exact (tkC_ren.1 _ _).symm | (simp; done) | apply And.intro)) (by first | exact .inl rfl | (refine .inr ⟨trivial, ?_⟩; first | (intro row h; rcases List.mem_singleton.1 h with rfl; exact nvB _) | (intro row h; cases h; done) | (simp; done)) | (refine .inr ⟨by simp [nvP, nvP.nvPs, nvD, nilS, errno], ?_⟩; first | (intro row h; rcases List.mem_singleton.1 h with rfl; exact nvB _) | (intro row h; cases h; done) | (simp [nvRow, nvD, nvP]; done))) ?_
        simp only [tkC, nilS, errno, bool, takeNV, FinR, evRes, evRVs, evRV, am, simprocAttr, tys]
        exact ⟨_, [], [], rfl, Ent.plain rfl rfl rfl trivial rfl, rfl, rfl⟩
      · have cP := refNPut _ fN hr
        have hV : cellsV (mkN k r l) = cellsV (mkN k r l) := rfl
        conv at hV => rhs; simp only [cellsV, mkN]
        obtain ⟨w, hw⟩ : ∃ w, sealed (bodyN (mkN k r l)) = w := ⟨_, rfl⟩
        rw [hw] at hend cP
        simp only [encN, mkN] at cP
        by_cases hE : w = b
        · rw [hr, if_pos ⟨rfl, hE⟩] at hend
          have hbe : (w == b) = true := by rw [hE]; exact beq_self_eq_true b
          rw [hend]
          refine ACall.frz [3] ?_
          simp only [am, simprocAttr, tys]
          refine ACall.of (cP) [] [] rfl (by simp) (by simp) (by simp) (by repeat' (first | exact trivial | exact .inl rfl | exact .inr rfl | exact .inr ⟨rfl, rfl, rfl, by simp; done⟩ | exact .inr ⟨rfl, by simp; done⟩ | exact .inr ⟨rfl, rfl, by simp; done⟩ | apply And.intro)) (by repeat' (first | exact trivial | rfl | exact (tkC_ren.1 _ _).symm | (simp; done) | apply And.intro)) (by first | exact .inl rfl | (refine .inr ⟨trivial, ?_⟩; first | (intro row h; rcases List.mem_singleton.1 h with rfl; exact nvB _) | (intro row h; cases h; done) | (simp; done)) | (refine .inr ⟨by simp [nvP, nvP.nvPs, nvD, nilS, errno], ?_⟩; first | (intro row h; rcases List.mem_singleton.1 h with rfl; exact nvB _) | (intro row h; cases h; done) | (simp [nvRow, nvD, nvP]; done))) ?_
          simp only [tkC, bool, errno, strOf_encB, bl_toList, hbe, takeNV, hV, FinR, evRes, evRVs, evRV, am, simprocAttr, tys]
          exact ⟨_, [], [], rfl, Ent.plain rfl rfl rfl trivial rfl, rfl, rfl⟩
        · rw [hr, if_neg (fun h => hE h.2)] at hend
          have hbe : (w == b) = false := beq_eq_false_iff_ne.2 hE
          rw [hend]
          refine ACall.frz [3] ?_
          simp only [am, simprocAttr, tys]
          refine ACall.of (cP) [] [] rfl (by simp) (by simp) (by simp) (by repeat' (first | exact trivial | exact .inl rfl | exact .inr rfl | exact .inr ⟨rfl, rfl, rfl, by simp; done⟩ | exact .inr ⟨rfl, by simp; done⟩ | exact .inr ⟨rfl, rfl, by simp; done⟩ | apply And.intro)) (by repeat' (first | exact trivial | rfl | exact (tkC_ren.1 _ _).symm | (simp; done) | apply And.intro)) (by first | exact .inl rfl | (refine .inr ⟨trivial, ?_⟩; first | (intro row h; rcases List.mem_singleton.1 h with rfl; exact nvB _) | (intro row h; cases h; done) | (simp; done)) | (refine .inr ⟨by simp [nvP, nvP.nvPs, nvD, nilS, errno], ?_⟩; first | (intro row h; rcases List.mem_singleton.1 h with rfl; exact nvB _) | (intro row h; cases h; done) | (simp [nvRow, nvD, nvP]; done))) ?_
          simp only [tkC, bool, errno, strOf_encB, bl_toList, hbe, takeNV, FinR, evRes, evRVs, evRV, am, simprocAttr, tys]
          exact ⟨_, [], [], rfl, Ent.plain rfl rfl rfl trivial rfl, rfl, rfl⟩

theorem refNTake (b : List UInt8) (hb : b.length ≤ 10000000) : AFun Try.prog 20 [byts b] [] (takeNR (takeN b)) [] := by
  have h := refNTakeV b hb
  rcases hq : takeN b with _ | x
  · rw [hq] at h; exact failN_ok' h
  · rw [hq] at h; exact cle2 h (cellsV_cle x)
end Go.Proofs.Ytflpphgccjlkjaa

set_option linter.unusedSimpArgs false
set_option linter.unusedVariables false
namespace Go.Proofs.Ytflpphgccjlkjaa
open Go Go.AM

def okE (e : EntT) : Bool := decide (e.2.2.1.2.1.length ≤ 12) && decide (e.2.2.1.2.2.2.1.length ≤ 12)
def fewE (l : List EntT) : List EntT := (l.take 310).takeWhile okE
theorem fewE_at (l : List EntT) (i : Nat) (hi : i ≤ 310) (h : ∀ x ∈ l.take i, okE x = true) (hs : i = 310 ∨ i = l.length ∨ ∃ x, l[i]? = some x ∧ okE x = false) : fewE l = l.take i := by
  unfold fewE
  rw [takeWhile_stop okE (l.take 310) i (fun x hx => h x (by rw [List.take_take] at hx; rw [Nat.min_eq_left hi] at hx; exact hx)) (fun x hx => ?_)]
  · rw [List.take_take, Nat.min_eq_left hi]
  · rw [List.getElem?_take] at hx
    split at hx
    · rename_i hlt
      rcases hs with rfl | rfl | ⟨y, hy, hb⟩
      · omega
      · simp at hx
      · rw [hy] at hx; cases hx; exact hb
    · cases hx
def fewN (x : NT) : NT := { x with log := fewE x.log }

set_option maxRecDepth 8000 in
set_option maxHeartbeats 2000000 in
theorem few17 (x : NT) (h : FitN x) : AFun Try.prog 10 [.d (.agg (encN x))] [] (.d (.agg (encN (fewN x)))) [] := by
  obtain ⟨k, f, t, v, n, i0, s, ld, l0, l1, l2, l3, l4, l5, l6, l⟩ := x
  have hl := h.hl
  have he := h.he
  simp only at hl he
  clear h
  refine AFun.of_walk hP Try.func10 rfl rfl rfl (by simp) rfl ?_
  simp only [Try.f10, encN, fewN, am, simprocAttr, tys]
  refine ALoopW.intro 36 0 (ι := { i : Nat // i ≤ l.length ∧ i ≤ 310 ∧ ∀ x ∈ l.take i, okE x = true }) (fun i => [(1, .ptr 0 0), (2, .ptr 1 0), (6, .d (.sl 7 (l.map encE))), (7, int l.length), (8, int i.1)])
    (fun _ => [.box [.d (.lit (.int .u8 k.toNat)), int f, int t, int v, int n, int i0, int s, bool ld, int l0, int l1, int l2, int l3, int l4, int l5, int l6, .d (.sl 7 (l.map encE))], .box [.d (.lit (.int .u8 0)), int 0, int 0, int 0, int 0, int 0, int 0, bool false, int 0, int 0, int 0, int 0, int 0, int 0, int 0, nilS]]) (fun i => l.length - i.1) ⟨0, by omega, by omega, by simp⟩ [] [0, 1] ?_ (fun ⟨i, hi, h12, hall⟩ => ?_)
  · exact ⟨rfl, rfl, by simp, (fun i hi => absurd hi (Nat.not_lt_zero _)), ⟨.inr rfl, .inr rfl, .inr rfl, .inr rfl, .inr rfl, trivial⟩, ⟨.inr ⟨by decide, rfl⟩, .inr ⟨by decide, rfl⟩, trivial⟩, rfl, by decide, rfl, (by first | rfl | simp [scRow, tkC_scs])⟩
  have hend : ∀ (hs : i = 310 ∨ i = l.length ∨ ∃ x, l[i]? = some x ∧ okE x = false), List.take i (List.map encE l) = (fewE l).map encE := fun hs => by rw [fewE_at l i h12 hall hs, List.map_take]
  rcases Nat.lt_or_ge i l.length with hlt | hge
  case' inr =>
    have hlt2 : ¬ ((i : Int) < l.length) := by omega
    have hi' : i = l.length := by omega
    have e : fewE l = l := by rw [fewE_at l i h12 hall (.inr (.inl hi')), hi', List.take_length]
    simp only [int, bool, nilS, hlt2, e, FinR, evRes, evRVs, evRV, am, simprocAttr, tys]
    exact ⟨_, [], [], rfl, Ent.plain rfl rfl rfl trivial rfl, rfl, rfl⟩
  have hb : l[i]? = some l[i] := List.getElem?_eq_getElem hlt
  have hlt2 : ((i : Int) < l.length) := by omega
  have e1 : IntKind.i64.wrap ((i : Int) + 1) = ((i + 1 : Nat) : Int) := by rw [IntWalk.i64_in _ (by omega)]; simp
  have hle : ((i : Int) ≤ l.length) := by omega
  have hle0 : ((0 : Int) ≤ (i : Int)) := by omega
  rcases hg : decide (i < 310 ∧ l[i].2.2.1.2.1.length ≤ 12 ∧ l[i].2.2.1.2.2.2.1.length ≤ 12) with _ | _
  case' true =>
    obtain ⟨q1, q2, q3⟩ := of_decide_eq_true hg
    have g1 : ¬ ((310 : Int) ≤ i) := by omega
    have g2 : ¬ ((12 : Int) < l[i].2.2.1.2.1.length) := by omega
    have g3 : ¬ ((12 : Int) < l[i].2.2.1.2.2.2.1.length) := by omega
    simp only [int, bool, nilS, hb, hlt2, encE, g1, g2, g3, e1, List.length_map, Int.natCast_nonneg, hle, am, simprocAttr, tys]
    refine ⟨⟨i + 1, by omega, by omega, fun x hx' => ?_⟩, [], [0, 1], ⟨rfl, rfl, by simp, (fun i hi => absurd hi (Nat.not_lt_zero _)), ⟨.inr rfl, .inr rfl, .inr rfl, .inr rfl, .inr rfl, trivial⟩, ⟨.inr ⟨by decide, rfl⟩, .inr ⟨by decide, rfl⟩, trivial⟩, rfl, by decide, rfl, (by first | rfl | simp [scRow, tkC_scs])⟩, by show l.length - (i + 1) < l.length - i; omega⟩
    rw [List.take_succ_eq_append_getElem hlt] at hx'
    rcases List.mem_append.1 hx' with h | h
    · exact hall x h
    · simp at h; subst h; simp [okE]; omega
  have hg' := of_decide_eq_false hg
  have hcase : ((310 : Int) ≤ i ∧ i = 310) ∨ (¬ ((310 : Int) ≤ i) ∧ ((12 : Int) < l[i].2.2.1.2.1.length) ∧ okE l[i] = false) ∨ (¬ ((310 : Int) ≤ i) ∧ ¬ ((12 : Int) < l[i].2.2.1.2.1.length) ∧ ((12 : Int) < l[i].2.2.1.2.2.2.1.length) ∧ okE l[i] = false) := by
    rcases Nat.lt_or_ge i 310 with a | a
    · right
      rcases Nat.lt_or_ge 12 l[i].2.2.1.2.1.length with b | b
      · left; exact ⟨by omega, by omega, by simp [okE]; omega⟩
      · right; exact ⟨by omega, by omega, by omega, by simp [okE]; omega⟩
    · left; omega
  rcases hcase with ⟨g1, hs⟩ | ⟨g1, g2, hs⟩ | ⟨g1, g2, g3, hs⟩
  · have hE := hend (.inl hs)
    simp only [int, bool, nilS, hb, hlt2, encE, g1, List.length_map, hle, hle0, hE, Int.natCast_nonneg, Int.toNat_natCast, List.drop_zero, FinR, evRes, evRVs, evRV, am, simprocAttr, tys]
    exact ⟨_, [], [], rfl, Ent.plain rfl rfl rfl trivial rfl, rfl, rfl⟩
  · have hE := hend (.inr (.inr ⟨l[i], hb, hs⟩))
    simp only [int, bool, nilS, hb, hlt2, encE, g1, g2, List.length_map, hle, hle0, hE, Int.natCast_nonneg, Int.toNat_natCast, List.drop_zero, FinR, evRes, evRVs, evRV, am, simprocAttr, tys]
    exact ⟨_, [], [], rfl, Ent.plain rfl rfl rfl trivial rfl, rfl, rfl⟩
  · have hE := hend (.inr (.inr ⟨l[i], hb, hs⟩))
    simp only [int, bool, nilS, hb, hlt2, encE, g1, g2, g3, List.length_map, hle, hle0, hE, Int.natCast_nonneg, Int.toNat_natCast, List.drop_zero, FinR, evRes, evRVs, evRV, am, simprocAttr, tys]
    exact ⟨_, [], [], rfl, Ent.plain rfl rfl rfl trivial rfl, rfl, rfl⟩
end Go.Proofs.Ytflpphgccjlkjaa

set_option linter.unusedSimpArgs false
set_option linter.unusedVariables false
namespace Go.Proofs.Ytflpphgccjlkjaa
open Go Go.AM

def exN : NT := ⟨2, 1, 0, 2, 3, 0, 0, false, 0, 0, 0, 0, 0, 0, 0, []⟩
theorem fitExN : FitN exN := ⟨by decide, by simp [exN]⟩
theorem exR : rightN exN = true := by decide
def exC : List DV := [.lit (.int .u8 2), .lit (.int .i64 1), .lit (.int .i64 0), .lit (.int .i64 2), .lit (.int .i64 3), .lit (.int .i64 0), .lit (.int .i64 0), .lit (.bool false), .lit (.int .i64 0), .lit (.int .i64 0), .lit (.int .i64 0), .lit (.int .i64 0), .lit (.int .i64 0), .lit (.int .i64 0), .lit (.int .i64 0), .lit (.slice none 0 0)]
theorem exN_rep (rows : AM.Rows) (β : Nat → AM.Loc) (w : World) (X : Nat → Prop) (v : Value) (h : repP rows β w X (.d (.agg exC)) v) : repP rows β w X (.d (.agg (encN exN))) v := by
  unfold repP rep at *
  obtain ⟨vs, e, h⟩ := h
  have hc : cle exC (encN exN) := ⟨.inl rfl, .inl rfl, .inl rfl, .inl rfl, .inl rfl, .inl rfl, .inl rfl, .inl rfl, .inl rfl, .inl rfl, .inl rfl, .inl rfl, .inl rfl, .inl rfl, .inl rfl, .inr ⟨rfl, 7, rfl⟩, trivial⟩
  exact ⟨vs, e, reps_cle hc h⟩
theorem leb_sm (n : Nat) (h : n < 128) : leb n = [UInt8.ofNat n] := by rw [leb, if_pos h]
theorem exBody : bodyN exN = [2, 1, 0, 2, 3, 0, 0, 0, 0, 0, 0, 0, 0, 0, 0, 0] := by
  have h : ∀ n : Nat, n < 128 → leb n = [UInt8.ofNat n] := leb_sm
  have h0 := h 0 (by decide); have h1 := h 1 (by decide); have h2 := h 2 (by decide); have h3 := h 3 (by decide)
  show 2 :: ([leb 1, leb 0, leb 2, leb 3, leb 0, leb 0, [0], leb 0, leb 0, leb 0, leb 0, leb 0, leb 0, leb 0] : List (List UInt8)).flatten ++ leb 0 ++ [] = _
  rw [h0, h1, h2, h3]; rfl
theorem exSealed : ∃ y : List UInt8, sealed (bodyN exN) = 16 :: 2 :: 1 :: 0 :: 2 :: 3 :: y ∧ y.length = 15 := by
  have h16 := leb_sm 16 (by decide)
  rw [exBody]
  refine ⟨[0, 0, 0, 0, 0, 0, 0, 0, 0, 0, 0] ++ be32 (crc (leb 16 ++ [2, 1, 0, 2, 3, 0, 0, 0, 0, 0, 0, 0, 0, 0, 0, 0])), ?_, by simp [be32]⟩
  show leb 16 ++ _ ++ be32 (crc (leb 16 ++ _)) = _
  rw [h16]; rfl

theorem shown17 : AFun Try.prog 9 [] [] (bool true) [] := by
  refine AFun.of_walk hP Try.func9 rfl rfl rfl (by simp) rfl ?_
  obtain ⟨y, hy, hyl⟩ := exSealed
  have q : AFun Try.prog 12 [.d (.agg exC)] [] (.tup [.own 0, errno 0]) [.own 1 ((sealed (bodyN exN)).map encB)] := AFun.arg1 (notePut exN fitExN exR) exN_rep
  simp only [exC] at q
  rw [hy] at q
  simp only [Try.f9, am, simprocAttr, tys]
  refine ACall.of (q) [] [] rfl (by simp) (by simp) (by simp) (by repeat' (first | exact trivial | exact .inl rfl | exact .inr rfl | exact .inr ⟨rfl, rfl, rfl, by simp; done⟩ | exact .inr ⟨rfl, by simp; done⟩ | exact .inr ⟨rfl, rfl, by simp; done⟩ | apply And.intro)) (by repeat' (first | exact trivial | rfl | exact (tkC_ren.1 _ _).symm | (simp; done) | apply And.intro)) (by first | exact .inl rfl | (refine .inr ⟨trivial, ?_⟩; first | (intro row h; rcases List.mem_singleton.1 h with rfl; exact nvB _) | (intro row h; cases h; done) | (simp; done)) | (refine .inr ⟨by simp [nvP, nvP.nvPs, nvD, nilS, errno], ?_⟩; first | (intro row h; rcases List.mem_singleton.1 h with rfl; exact nvB _) | (intro row h; cases h; done) | (simp [nvRow, nvD, nvP]; done))) ?_
  have hlen : ((16 :: 2 :: 1 :: 0 :: 2 :: 3 :: y : List UInt8).length : Int) = 21 := by simp only [List.length_cons, hyl]; rfl
  have hn : (16 :: 2 :: 1 :: 0 :: 2 :: 3 :: y : List UInt8).length = 21 := by simp only [List.length_cons, hyl]
  have h6 : (16 :: 2 :: 1 :: 0 :: 2 :: 3 :: y : List UInt8).take 6 = [16, 2, 1, 0, 2, 3] := rfl
  have hz : (([16, 2, 1, 0, 2, 3] : List UInt8) == [16, 2, 1, 0, 2, 3]) = true := rfl
  generalize (16 :: 2 :: 1 :: 0 :: 2 :: 3 :: y : List UInt8) = z at *
  generalize hz6 : ([16, 2, 1, 0, 2, 3] : List UInt8) = z6 at h6
  have hz' : (z6 == [16, 2, 1, 0, 2, 3]) = true := by rw [← hz6]; rfl
  simp only [errno, bool, List.length_map, hn, hlen, List.drop_zero, ← List.map_take, h6, strOf_encB, bl_toList, hz', FinR, evRes, evRVs, evRV, am, simprocAttr, tys]
  exact ⟨_, [], [], rfl, Ent.plain rfl rfl rfl trivial rfl, rfl, rfl⟩
end Go.Proofs.Ytflpphgccjlkjaa

set_option linter.unusedSimpArgs false
set_option linter.unusedVariables false
namespace Go.Proofs.Ytflpphgccjlkjaa
open Go Go.AM

theorem min3000e (n : Nat) : (if (3000 : Int) < n then (3000 : Int) else n) = ((min n 3000 : Nat) : Int) := by
  by_cases h : 3000 < n
  · rw [if_pos (by omega), Nat.min_eq_right (by omega)]; rfl
  · rw [if_neg (by omega), Nat.min_eq_left (by omega)]
theorem take_mine (bs : List UInt8) (k : Nat) : bs.take (min bs.length k) = bs.take k := by
  rw [Nat.min_comm]; exact List.take_eq_take_min.symm
theorem fitZe : FitN zeroN := ⟨by decide, by simp [zeroN]⟩
theorem sameN_refle (x : NT) : sameN x x = true := (sameN_iff x x).2 rfl

set_option maxRecDepth 8000 in
set_option maxHeartbeats 4000000 in
theorem lawNoteTakes (b : List UInt8) (hb : b.length ≤ 9223372036854775807) :
    AFun Try.prog 6 [byts b] [] (bool true) [] := by
  refine AFun.of_walk hP Try.func6 rfl rfl rfl (by simp) rfl ?_
  have hx : (b.take 3000).length ≤ 3000 := by simp; omega
  simp only [Try.f6, byts, min3000e, take_mine, Int.natCast_nonneg, Int.toNat_natCast, ← List.map_take, List.drop_zero, am, simprocAttr, tys]
  refine ⟨by omega, ?_⟩
  generalize b.take 3000 = x at *
  have c1 := noteTake x (by omega)
  have c2 := refNTake x (by omega)
  rcases hk : takeN x with _ | y
  · have cS := refNSame zeroN zeroN fitZe fitZe
    rw [sameN_refle] at cS
    rw [hk] at c1 c2
    simp only [takeNR, encN, zeroN, List.map_nil] at c1 c2 cS
    refine ACall.of (c1) [] [] rfl (by simp) (by simp) (by simp) (by repeat' (first | exact trivial | exact .inl rfl | exact .inr rfl | exact .inr ⟨rfl, rfl, rfl, by simp; done⟩ | exact .inr ⟨rfl, by simp; done⟩ | exact .inr ⟨rfl, rfl, by simp; done⟩ | apply And.intro)) (by repeat' (first | exact trivial | rfl | exact (tkC_ren.1 _ _).symm | (simp; done) | apply And.intro)) (by first | exact .inl rfl | (refine .inr ⟨trivial, ?_⟩; first | (intro row h; rcases List.mem_singleton.1 h with rfl; exact nvB _) | (intro row h; cases h; done) | (simp; done)) | (refine .inr ⟨by simp [nvP, nvP.nvPs, nvD, nilS, errno], ?_⟩; first | (intro row h; rcases List.mem_singleton.1 h with rfl; exact nvB _) | (intro row h; cases h; done) | (simp [nvRow, nvD, nvP]; done))) ?_
    simp only [errno, am, simprocAttr, tys]
    refine ACall.of (c2) [] [] rfl (by simp) (by simp) (by simp) (by repeat' (first | exact trivial | exact .inl rfl | exact .inr rfl | exact .inr ⟨rfl, rfl, rfl, by simp; done⟩ | exact .inr ⟨rfl, by simp; done⟩ | exact .inr ⟨rfl, rfl, by simp; done⟩ | apply And.intro)) (by repeat' (first | exact trivial | rfl | exact (tkC_ren.1 _ _).symm | (simp; done) | apply And.intro)) (by first | exact .inl rfl | (refine .inr ⟨trivial, ?_⟩; first | (intro row h; rcases List.mem_singleton.1 h with rfl; exact nvB _) | (intro row h; cases h; done) | (simp; done)) | (refine .inr ⟨by simp [nvP, nvP.nvPs, nvD, nilS, errno], ?_⟩; first | (intro row h; rcases List.mem_singleton.1 h with rfl; exact nvB _) | (intro row h; cases h; done) | (simp [nvRow, nvD, nvP]; done))) ?_
    simp only [errno, am, simprocAttr, tys]
    refine ACall.of (shown17) [] [] rfl (by simp) (by simp) (by simp) (by repeat' (first | exact trivial | exact .inl rfl | exact .inr rfl | exact .inr ⟨rfl, rfl, rfl, by simp; done⟩ | exact .inr ⟨rfl, by simp; done⟩ | exact .inr ⟨rfl, rfl, by simp; done⟩ | apply And.intro)) (by repeat' (first | exact trivial | rfl | exact (tkC_ren.1 _ _).symm | (simp; done) | apply And.intro)) (by first | exact .inl rfl | (refine .inr ⟨trivial, ?_⟩; first | (intro row h; rcases List.mem_singleton.1 h with rfl; exact nvB _) | (intro row h; cases h; done) | (simp; done)) | (refine .inr ⟨by simp [nvP, nvP.nvPs, nvD, nilS, errno], ?_⟩; first | (intro row h; rcases List.mem_singleton.1 h with rfl; exact nvB _) | (intro row h; cases h; done) | (simp [nvRow, nvD, nvP]; done))) ?_
    simp only [bool, am, simprocAttr, tys]
    refine ACall.of (cS) [] [] rfl (by simp) (by simp) (by simp) (by repeat' (first | exact trivial | exact .inl rfl | exact .inr rfl | exact .inr ⟨rfl, rfl, rfl, by simp; done⟩ | exact .inr ⟨rfl, by simp; done⟩ | exact .inr ⟨rfl, rfl, by simp; done⟩ | apply And.intro)) (by repeat' (first | exact trivial | rfl | exact (tkC_ren.1 _ _).symm | (simp; done) | apply And.intro)) (by first | exact .inl rfl | (refine .inr ⟨trivial, ?_⟩; first | (intro row h; rcases List.mem_singleton.1 h with rfl; exact nvB _) | (intro row h; cases h; done) | (simp; done)) | (refine .inr ⟨by simp [nvP, nvP.nvPs, nvD, nilS, errno], ?_⟩; first | (intro row h; rcases List.mem_singleton.1 h with rfl; exact nvB _) | (intro row h; cases h; done) | (simp [nvRow, nvD, nvP]; done))) ?_
    simp only [bool, beq_self_eq_true, FinR, evRes, evRVs, evRV, am, simprocAttr, tys]
    exact ⟨_, [], [], rfl, Ent.plain rfl rfl rfl trivial rfl, rfl, rfl⟩
  · obtain ⟨g1, g2, g3⟩ := takeN_some hk
    have cS := refNSame y y g2 g2
    rw [sameN_refle] at cS
    rw [hk] at c1 c2
    simp only [takeNR, encN] at c1 c2 cS
    refine ACall.of (c1) [] [] rfl (by simp) (by simp) (by simp) (by repeat' (first | exact trivial | exact .inl rfl | exact .inr rfl | exact .inr ⟨rfl, rfl, rfl, by simp; done⟩ | exact .inr ⟨rfl, by simp; done⟩ | exact .inr ⟨rfl, rfl, by simp; done⟩ | apply And.intro)) (by repeat' (first | exact trivial | rfl | exact (tkC_ren.1 _ _).symm | (simp; done) | apply And.intro)) (by first | exact .inl rfl | (refine .inr ⟨trivial, ?_⟩; first | (intro row h; rcases List.mem_singleton.1 h with rfl; exact nvB _) | (intro row h; cases h; done) | (simp; done)) | (refine .inr ⟨by simp [nvP, nvP.nvPs, nvD, nilS, errno], ?_⟩; first | (intro row h; rcases List.mem_singleton.1 h with rfl; exact nvB _) | (intro row h; cases h; done) | (simp [nvRow, nvD, nvP]; done))) ?_
    simp only [errno, am, simprocAttr, tys]
    refine ACall.of (c2) [] [] rfl (by simp) (by simp) (by simp) (by repeat' (first | exact trivial | exact .inl rfl | exact .inr rfl | exact .inr ⟨rfl, rfl, rfl, by simp; done⟩ | exact .inr ⟨rfl, by simp; done⟩ | exact .inr ⟨rfl, rfl, by simp; done⟩ | apply And.intro)) (by repeat' (first | exact trivial | rfl | exact (tkC_ren.1 _ _).symm | (simp; done) | apply And.intro)) (by first | exact .inl rfl | (refine .inr ⟨trivial, ?_⟩; first | (intro row h; rcases List.mem_singleton.1 h with rfl; exact nvB _) | (intro row h; cases h; done) | (simp; done)) | (refine .inr ⟨by simp [nvP, nvP.nvPs, nvD, nilS, errno], ?_⟩; first | (intro row h; rcases List.mem_singleton.1 h with rfl; exact nvB _) | (intro row h; cases h; done) | (simp [nvRow, nvD, nvP]; done))) ?_
    simp only [errno, am, simprocAttr, tys]
    refine ACall.of (shown17) [] [] rfl (by simp) (by simp) (by simp) (by repeat' (first | exact trivial | exact .inl rfl | exact .inr rfl | exact .inr ⟨rfl, rfl, rfl, by simp; done⟩ | exact .inr ⟨rfl, by simp; done⟩ | exact .inr ⟨rfl, rfl, by simp; done⟩ | apply And.intro)) (by repeat' (first | exact trivial | rfl | exact (tkC_ren.1 _ _).symm | (simp; done) | apply And.intro)) (by first | exact .inl rfl | (refine .inr ⟨trivial, ?_⟩; first | (intro row h; rcases List.mem_singleton.1 h with rfl; exact nvB _) | (intro row h; cases h; done) | (simp; done)) | (refine .inr ⟨by simp [nvP, nvP.nvPs, nvD, nilS, errno], ?_⟩; first | (intro row h; rcases List.mem_singleton.1 h with rfl; exact nvB _) | (intro row h; cases h; done) | (simp [nvRow, nvD, nvP]; done))) ?_
    simp only [bool, am, simprocAttr, tys]
    refine ACall.of (cS) [] [] rfl (by simp) (by simp) (by simp) (by repeat' (first | exact trivial | exact .inl rfl | exact .inr rfl | exact .inr ⟨rfl, rfl, rfl, by simp; done⟩ | exact .inr ⟨rfl, by simp; done⟩ | exact .inr ⟨rfl, rfl, by simp; done⟩ | apply And.intro)) (by repeat' (first | exact trivial | rfl | exact (tkC_ren.1 _ _).symm | (simp; done) | apply And.intro)) (by first | exact .inl rfl | (refine .inr ⟨trivial, ?_⟩; first | (intro row h; rcases List.mem_singleton.1 h with rfl; exact nvB _) | (intro row h; cases h; done) | (simp; done)) | (refine .inr ⟨by simp [nvP, nvP.nvPs, nvD, nilS, errno], ?_⟩; first | (intro row h; rcases List.mem_singleton.1 h with rfl; exact nvB _) | (intro row h; cases h; done) | (simp [nvRow, nvD, nvP]; done))) ?_
    simp only [bool, beq_self_eq_true, FinR, evRes, evRVs, evRV, am, simprocAttr, tys]
    exact ⟨_, [], [], rfl, Ent.plain rfl rfl rfl trivial rfl, rfl, rfl⟩
end Go.Proofs.Ytflpphgccjlkjaa
