/- Proved here: what the functions of the program compute. No condition. -/
import Derived.Test.YtflpphgccjlkjaaG9
import Derived.Test.YtflpphgccjlkjaaG10
set_option linter.all false
set_option linter.unusedSimpArgs false
set_option linter.unusedVariables false
set_option linter.unusedSimpArgs false
set_option linter.unusedVariables false
namespace Go.Proofs.Ytflpphgccjlkjaa
open Go Go.AM

def entR : Option (List EntT × List UInt8) → PV
  | none => .tup [nilS, bool false]
  | some (l, r) => .tup [.d (.sl 7 (l.map encE)), bool (decide (r = []))]

set_option maxRecDepth 8000 in
set_option maxHeartbeats 2000000 in
theorem noteEntries (b : List UInt8) (many : Nat) (hl : b.length ≤ 10000000) (hm : many ≤ 300) : AFun Try.prog 43 [byts b, u64 many] [] (entR (decN takeE many b)) [] := by
  refine AFun.of_walk hP Try.func43 rfl rfl rfl (by simp) rfl ?_
  simp only [Try.f43, u64, byts, am, simprocAttr, tys]
  refine ALoopW.ghost 6 7 rfl ?_
  simp only [am, simprocAttr, tys]
  refine ALoopW.intro 50 0 (ι := { z : Nat × List EntT × List UInt8 // z.1 ≤ many ∧ decN takeE z.1 b = some (z.2.1, z.2.2) }) (fun z => [(0, byts z.1.2.2), (6, .own 0), (12, u64 many), (13, u64 z.1.1)]) (fun z => [.own 7 (z.1.2.1.map encE)]) (fun z => many - z.1.1)
    ⟨(0, [], b), by omega, rfl⟩ [] [0] ?_ (fun ⟨⟨k, l, r⟩, hk, hd⟩ => ?_)
  · exact ⟨rfl, rfl, by simp, (fun i hi => absurd hi (Nat.not_lt_zero _)), ⟨.inr rfl, .inr rfl, .inr rfl, .inr rfl, trivial⟩, ⟨.inr ⟨by decide, rfl⟩, trivial⟩, rfl, by decide, rfl, (by first | rfl | simp [scRow, tkC_scs])⟩
  simp only at hk hd ⊢
  obtain ⟨d1, d2, d3, d4⟩ := decE_some _ _ _ _ hd
  rcases Nat.lt_or_ge k many with hlt | hge
  · have hltI : ((k : Int) < many) := by omega
    have hfail : takeE r = none → decN takeE many b = none := fun h => by
      have := decN_snoc takeE k b
      rw [hd] at this
      simp only [h] at this
      have := decN_none takeE this (many - (k + 1))
      rwa [show k + 1 + (many - (k + 1)) = many from by omega] at this
    have e1 : IntKind.u64.wrap ((k : Int) + 1) = ((k + 1 : Nat) : Int) := by rw [IntWalk.u64_in _ (by omega)]; simp
    simp only [u64, byts, hltI, am, simprocAttr, tys]
    refine ACall.of (octsNew r (by omega)) [] [] rfl (by simp) (by simp) (by simp) (by repeat' (first | exact trivial | exact .inl rfl | exact .inr rfl | exact .inr ⟨rfl, rfl, rfl, by simp; done⟩ | exact .inr ⟨rfl, by simp; done⟩ | exact .inr ⟨rfl, rfl, by simp; done⟩ | apply And.intro)) (by repeat' (first | exact trivial | rfl | exact (tkC_ren.1 _ _).symm | (simp; done) | apply And.intro)) (by first | exact .inl rfl | (refine .inr ⟨trivial, ?_⟩; first | (intro row h; rcases List.mem_singleton.1 h with rfl; exact nvB _) | (intro row h; cases h; done) | (simp; done)) | (refine .inr ⟨by simp [nvP, nvP.nvPs, nvD, nilS, errno], ?_⟩; first | (intro row h; rcases List.mem_singleton.1 h with rfl; exact nvB _) | (intro row h; cases h; done) | (simp [nvRow, nvD, nvP]; done))) ?_
    simp only [tkC_ren, am, simprocAttr, tys]
    refine ACall.of (tkNum (some r) (by intro bs h; cases h <;> omega)) [1] [] rfl (by simp) (by simp) (by simp) (by repeat' (first | exact trivial | exact .inl rfl | exact .inr rfl | exact .inr ⟨rfl, rfl, rfl, by simp; done⟩ | exact .inr ⟨rfl, by simp; done⟩ | exact .inr ⟨rfl, rfl, by simp; done⟩ | apply And.intro)) (by repeat' (first | exact trivial | rfl | exact (tkC_ren.1 _ _).symm | (simp; done) | apply And.intro)) (by first | exact .inl rfl | (refine .inr ⟨trivial, ?_⟩; first | (intro row h; rcases List.mem_singleton.1 h with rfl; exact nvB _) | (intro row h; cases h; done) | (simp; done)) | (refine .inr ⟨by simp [nvP, nvP.nvPs, nvD, nilS, errno], ?_⟩; first | (intro row h; rcases List.mem_singleton.1 h with rfl; exact nvB _) | (intro row h; cases h; done) | (simp [nvRow, nvD, nvP]; done))) ?_
    rcases h1 : takeNum r with _ | ⟨c, r1⟩
    · have hte : takeE r = none := by unfold takeE; rw [h1]
      have ht : decN takeE many b = none := hfail hte
      have hO := opTake [] (by simp)
      have hz : takeO ([] : List UInt8) = none := rfl
      rw [hz] at hO
      simp only [takeOR, encO, byts] at hO
      have w0 : IntKind.i64.wrap ((r.length : Int) - 0) = (r.length : Int) := IntWalk.i64_in _ (by omega)
      have w0' : IntKind.i64.wrap (r.length : Int) = (r.length : Int) := IntWalk.i64_in _ (by omega)
      have hdr : r.drop r.length = [] := by simp
      simp only [numT, h1, u64, tkC_ren, am, simprocAttr, tys]
      refine ACall.of (tkNum none (by intro bs h; cases h)) [1] [] rfl (by simp) (by simp) (by simp) (by repeat' (first | exact trivial | exact .inl rfl | exact .inr rfl | exact .inr ⟨rfl, rfl, rfl, by simp; done⟩ | exact .inr ⟨rfl, by simp; done⟩ | exact .inr ⟨rfl, rfl, by simp; done⟩ | apply And.intro)) (by repeat' (first | exact trivial | rfl | exact (tkC_ren.1 _ _).symm | (simp; done) | apply And.intro)) (by first | exact .inl rfl | (refine .inr ⟨trivial, ?_⟩; first | (intro row h; rcases List.mem_singleton.1 h with rfl; exact nvB _) | (intro row h; cases h; done) | (simp; done)) | (refine .inr ⟨by simp [nvP, nvP.nvPs, nvD, nilS, errno], ?_⟩; first | (intro row h; rcases List.mem_singleton.1 h with rfl; exact nvB _) | (intro row h; cases h; done) | (simp [nvRow, nvD, nvP]; done))) ?_
      simp only [numT, u64, tkC_ren, am, simprocAttr, tys]
      refine ACall.of (tkLeft none) [1] [] rfl (by simp) (by simp) (by simp) (by repeat' (first | exact trivial | exact .inl rfl | exact .inr rfl | exact .inr ⟨rfl, rfl, rfl, by simp; done⟩ | exact .inr ⟨rfl, by simp; done⟩ | exact .inr ⟨rfl, rfl, by simp; done⟩ | apply And.intro)) (by repeat' (first | exact trivial | rfl | exact (tkC_ren.1 _ _).symm | (simp; done) | apply And.intro)) (by first | exact .inl rfl | (refine .inr ⟨trivial, ?_⟩; first | (intro row h; rcases List.mem_singleton.1 h with rfl; exact nvB _) | (intro row h; cases h; done) | (simp; done)) | (refine .inr ⟨by simp [nvP, nvP.nvPs, nvD, nilS, errno], ?_⟩; first | (intro row h; rcases List.mem_singleton.1 h with rfl; exact nvB _) | (intro row h; cases h; done) | (simp [nvRow, nvD, nvP]; done))) ?_
      simp only [leftT, int, tkC_ren, Int.sub_zero, w0', Int.natCast_nonneg, Int.toNat_natCast, ← List.map_take, ← List.map_drop, List.take_length, hdr, am, simprocAttr, tys]
      refine ⟨Int.le_refl _, ?_⟩
      refine ACall.of (hO) [] [] rfl (by simp) (by simp) (by simp) (by repeat' (first | exact trivial | exact .inl rfl | exact .inr rfl | exact .inr ⟨rfl, rfl, rfl, by simp; done⟩ | exact .inr ⟨rfl, by simp; done⟩ | exact .inr ⟨rfl, rfl, by simp; done⟩ | apply And.intro)) (by repeat' (first | exact trivial | rfl | exact (tkC_ren.1 _ _).symm | (simp; done) | apply And.intro)) (by first | exact .inl rfl | (refine .inr ⟨trivial, ?_⟩; first | (intro row h; rcases List.mem_singleton.1 h with rfl; exact nvB _) | (intro row h; cases h; done) | (simp; done)) | (refine .inr ⟨by simp [nvP, nvP.nvPs, nvD, nilS, errno], ?_⟩; first | (intro row h; rcases List.mem_singleton.1 h with rfl; exact nvB _) | (intro row h; cases h; done) | (simp [nvRow, nvD, nvP]; done))) ?_
      rw [ht]
      simp only [entR, bool, nilS, errno, FinR, evRes, evRVs, evRV, am, simprocAttr, tys]
      exact ⟨_, [], [], rfl, Ent.plain rfl rfl rfl trivial rfl, rfl, rfl⟩
    · obtain ⟨g1, g2⟩ := takeNum_some h1
      have gl := congrArg List.length g2
      rw [List.length_append] at gl
      simp only [numT, h1, u64, tkC_ren, am, simprocAttr, tys]
      refine ACall.of (tkNum (some r1) (by intro bs h; cases h <;> omega)) [1] [] rfl (by simp) (by simp) (by simp) (by repeat' (first | exact trivial | exact .inl rfl | exact .inr rfl | exact .inr ⟨rfl, rfl, rfl, by simp; done⟩ | exact .inr ⟨rfl, by simp; done⟩ | exact .inr ⟨rfl, rfl, by simp; done⟩ | apply And.intro)) (by repeat' (first | exact trivial | rfl | exact (tkC_ren.1 _ _).symm | (simp; done) | apply And.intro)) (by first | exact .inl rfl | (refine .inr ⟨trivial, ?_⟩; first | (intro row h; rcases List.mem_singleton.1 h with rfl; exact nvB _) | (intro row h; cases h; done) | (simp; done)) | (refine .inr ⟨by simp [nvP, nvP.nvPs, nvD, nilS, errno], ?_⟩; first | (intro row h; rcases List.mem_singleton.1 h with rfl; exact nvB _) | (intro row h; cases h; done) | (simp [nvRow, nvD, nvP]; done))) ?_
      rcases h2 : takeNum r1 with _ | ⟨q, r2⟩
      · have hte : takeE r = none := by unfold takeE; rw [h1]; simp only [h2]
        have ht : decN takeE many b = none := hfail hte
        have hO := opTake [] (by simp)
        have hz : takeO ([] : List UInt8) = none := rfl
        rw [hz] at hO
        simp only [takeOR, encO, byts] at hO
        have w0' : IntKind.i64.wrap (r.length : Int) = (r.length : Int) := IntWalk.i64_in _ (by omega)
        have hdr : r.drop r.length = [] := by simp
        simp only [numT, h2, u64, tkC_ren, am, simprocAttr, tys]
        refine ACall.of (tkLeft none) [1] [] rfl (by simp) (by simp) (by simp) (by repeat' (first | exact trivial | exact .inl rfl | exact .inr rfl | exact .inr ⟨rfl, rfl, rfl, by simp; done⟩ | exact .inr ⟨rfl, by simp; done⟩ | exact .inr ⟨rfl, rfl, by simp; done⟩ | apply And.intro)) (by repeat' (first | exact trivial | rfl | exact (tkC_ren.1 _ _).symm | (simp; done) | apply And.intro)) (by first | exact .inl rfl | (refine .inr ⟨trivial, ?_⟩; first | (intro row h; rcases List.mem_singleton.1 h with rfl; exact nvB _) | (intro row h; cases h; done) | (simp; done)) | (refine .inr ⟨by simp [nvP, nvP.nvPs, nvD, nilS, errno], ?_⟩; first | (intro row h; rcases List.mem_singleton.1 h with rfl; exact nvB _) | (intro row h; cases h; done) | (simp [nvRow, nvD, nvP]; done))) ?_
        simp only [leftT, int, tkC_ren, Int.sub_zero, w0', Int.natCast_nonneg, Int.toNat_natCast, ← List.map_take, ← List.map_drop, List.take_length, hdr, am, simprocAttr, tys]
        refine ⟨Int.le_refl _, ?_⟩
        refine ACall.of (hO) [] [] rfl (by simp) (by simp) (by simp) (by repeat' (first | exact trivial | exact .inl rfl | exact .inr rfl | exact .inr ⟨rfl, rfl, rfl, by simp; done⟩ | exact .inr ⟨rfl, by simp; done⟩ | exact .inr ⟨rfl, rfl, by simp; done⟩ | apply And.intro)) (by repeat' (first | exact trivial | rfl | exact (tkC_ren.1 _ _).symm | (simp; done) | apply And.intro)) (by first | exact .inl rfl | (refine .inr ⟨trivial, ?_⟩; first | (intro row h; rcases List.mem_singleton.1 h with rfl; exact nvB _) | (intro row h; cases h; done) | (simp; done)) | (refine .inr ⟨by simp [nvP, nvP.nvPs, nvD, nilS, errno], ?_⟩; first | (intro row h; rcases List.mem_singleton.1 h with rfl; exact nvB _) | (intro row h; cases h; done) | (simp [nvRow, nvD, nvP]; done))) ?_
        rw [ht]
        simp only [entR, bool, nilS, errno, FinR, evRes, evRVs, evRV, am, simprocAttr, tys]
        exact ⟨_, [], [], rfl, Ent.plain rfl rfl rfl trivial rfl, rfl, rfl⟩
      · obtain ⟨p1, p2⟩ := takeNum_some h2
        have pl := congrArg List.length p2
        rw [List.length_append] at pl
        have hrr : r = (leb c ++ leb q) ++ r2 := by rw [List.append_assoc, ← p2]; exact g2
        have w3 : IntKind.i64.wrap ((r.length : Int) - r2.length) = ((r.length - r2.length : Nat) : Int) := by rw [IntWalk.i64_in _ (by omega)]; omega
        have w4 : r.drop (r.length - r2.length) = r2 := by rw [hrr]; exact drop_tail _ _
        have w5 : ((r.length - r2.length : Nat) : Int) ≤ (r.length : Int) := by omega
        have nc : IntKind.i64.wrap (c : Int) = numI c := rfl
        have nq : IntKind.i64.wrap (q : Int) = numI q := rfl
        have hO := opTake r2 (by omega)
        simp only [numT, h2, u64, tkC_ren, am, simprocAttr, tys]
        refine ACall.of (tkLeft (some r2)) [1] [] rfl (by simp) (by simp) (by simp) (by repeat' (first | exact trivial | exact .inl rfl | exact .inr rfl | exact .inr ⟨rfl, rfl, rfl, by simp; done⟩ | exact .inr ⟨rfl, by simp; done⟩ | exact .inr ⟨rfl, rfl, by simp; done⟩ | apply And.intro)) (by repeat' (first | exact trivial | rfl | exact (tkC_ren.1 _ _).symm | (simp; done) | apply And.intro)) (by first | exact .inl rfl | (refine .inr ⟨trivial, ?_⟩; first | (intro row h; rcases List.mem_singleton.1 h with rfl; exact nvB _) | (intro row h; cases h; done) | (simp; done)) | (refine .inr ⟨by simp [nvP, nvP.nvPs, nvD, nilS, errno], ?_⟩; first | (intro row h; rcases List.mem_singleton.1 h with rfl; exact nvB _) | (intro row h; cases h; done) | (simp [nvRow, nvD, nvP]; done))) ?_
        simp only [leftT, int, tkC_ren, w3, w5, nc, nq, Int.natCast_nonneg, Int.toNat_natCast, ← List.map_take, ← List.map_drop, List.take_length, w4, am, simprocAttr, tys]
        rcases h3 : takeO r2 with _ | ⟨o, r3⟩
        · have hte : takeE r = none := by unfold takeE; rw [h1]; simp only [h2, h3]
          have ht : decN takeE many b = none := hfail hte
          rw [h3] at hO
          simp only [takeOR, encO, byts] at hO
          refine ⟨Int.le_refl _, ?_⟩
          refine ACall.of (hO) [] [] rfl (by simp) (by simp) (by simp) (by repeat' (first | exact trivial | exact .inl rfl | exact .inr rfl | exact .inr ⟨rfl, rfl, rfl, by simp; done⟩ | exact .inr ⟨rfl, by simp; done⟩ | exact .inr ⟨rfl, rfl, by simp; done⟩ | apply And.intro)) (by repeat' (first | exact trivial | rfl | exact (tkC_ren.1 _ _).symm | (simp; done) | apply And.intro)) (by first | exact .inl rfl | (refine .inr ⟨trivial, ?_⟩; first | (intro row h; rcases List.mem_singleton.1 h with rfl; exact nvB _) | (intro row h; cases h; done) | (simp; done)) | (refine .inr ⟨by simp [nvP, nvP.nvPs, nvD, nilS, errno], ?_⟩; first | (intro row h; rcases List.mem_singleton.1 h with rfl; exact nvB _) | (intro row h; cases h; done) | (simp [nvRow, nvD, nvP]; done))) ?_
          rw [ht]
          simp only [entR, bool, nilS, errno, FinR, evRes, evRVs, evRV, am, simprocAttr, tys]
          exact ⟨_, [], [], rfl, Ent.plain rfl rfl rfl trivial rfl, rfl, rfl⟩
        · have hte : takeE r = some ((numI c, numI q, o, ()), r3) := by unfold takeE; rw [h1]; simp only [h2, h3]
          have hd2 : decN takeE (k + 1) b = some (l ++ [(numI c, numI q, o, ())], r3) := by
            rw [decN_snoc, hd]; simp only [hte]
          have ea : l.map encE ++ [[DV.lit (.int .i64 (numI c)), .lit (.int .i64 (numI q)), .lit (.int .u8 (o.1.toNat : Int)), .sl 2 (o.2.1.map encL), .lit (.int .i64 o.2.2.1.1), .lit (.int .i64 o.2.2.1.2.1), .sl 3 (o.2.2.2.1.map encA)]] = (l ++ [(numI c, numI q, o, ())]).map encE := by rw [List.map_append]; rfl
          rw [h3] at hO
          simp only [takeOR, encO, byts] at hO
          refine ⟨Int.le_refl _, ?_⟩
          refine ACall.of (hO) [] [] rfl (by simp) (by simp) (by simp) (by repeat' (first | exact trivial | exact .inl rfl | exact .inr rfl | exact .inr ⟨rfl, rfl, rfl, by simp; done⟩ | exact .inr ⟨rfl, by simp; done⟩ | exact .inr ⟨rfl, rfl, by simp; done⟩ | apply And.intro)) (by repeat' (first | exact trivial | rfl | exact (tkC_ren.1 _ _).symm | (simp; done) | apply And.intro)) (by first | exact .inl rfl | (refine .inr ⟨trivial, ?_⟩; first | (intro row h; rcases List.mem_singleton.1 h with rfl; exact nvB _) | (intro row h; cases h; done) | (simp; done)) | (refine .inr ⟨by simp [nvP, nvP.nvPs, nvD, nilS, errno], ?_⟩; first | (intro row h; rcases List.mem_singleton.1 h with rfl; exact nvB _) | (intro row h; cases h; done) | (simp [nvRow, nvD, nvP]; done))) ?_
          simp only [errno, byts, ea, e1, List.length_map, am, simprocAttr, tys]
          exact ⟨by omega, ⟨(k + 1, l ++ [(numI c, numI q, o, ())], r3), by omega, hd2⟩, [], [5], ⟨rfl, rfl, by simp, (fun i hi => absurd hi (Nat.not_lt_zero _)), ⟨.inr rfl, .inr rfl, .inr rfl, .inr rfl, trivial⟩, ⟨.inr ⟨by decide, rfl⟩, trivial⟩, rfl, by decide, rfl, (by first | rfl | simp [scRow, tkC_scs])⟩, by show many - (k + 1) < many - k; omega⟩
  · have hltI : ¬ ((k : Int) < many) := by omega
    obtain rfl : k = many := by omega
    have hz : decide ((r.length : Int) = 0) = decide (r = []) := by
      rw [decide_eq_decide, ← List.length_eq_zero_iff]; omega
    have hz2 : ((r.length : Int) == 0) = decide (r = []) := by
      rw [Bool.eq_iff_iff, beq_iff_eq, decide_eq_true_eq, ← List.length_eq_zero_iff]; omega
    simp only [u64, byts, hltI, hd, entR, hz, hz2, bool, List.length_map, FinR, evRes, evRVs, evRV, am, simprocAttr, tys]
    exact ⟨_, [0], [], rfl, ⟨rfl, rfl, by simp, (fun i hi => absurd hi (Nat.not_lt_zero _)), trivial, trivial, rfl, by decide, rfl, (by first | rfl | simp [scRow, tkC_scs])⟩, rfl, rfl⟩
end Go.Proofs.Ytflpphgccjlkjaa

set_option linter.unusedSimpArgs false
set_option linter.unusedVariables false
namespace Go.Proofs.Ytflpphgccjlkjaa
open Go Go.AM

theorem cle2 {f : Nat} {args : List PV} {A B : List DV} {x : DV} (h : AFun Try.prog f args [] (.tup [.d (.agg A), .d x]) []) (hc : cle A B) : AFun Try.prog f args [] (.tup [.d (.agg B), .d x]) [] := by
  refine AFun.weaken h ?_ ?_
  · exact ⟨trivial, trivial, trivial⟩
  · intro rows β w X v h
    unfold repP at h ⊢
    obtain ⟨vs, rfl, h⟩ := h
    refine ⟨vs, rfl, ?_⟩
    unfold repPs at h ⊢
    obtain ⟨u, us, rfl, h1, h2⟩ := h
    refine ⟨u, us, rfl, ?_, h2⟩
    unfold repP rep at h1 ⊢
    obtain ⟨vs', e, h1⟩ := h1
    exact ⟨vs', e, reps_cle hc h1⟩
def zeroN : NT := ⟨0, 0, 0, 0, 0, 0, 0, false, 0, 0, 0, 0, 0, 0, 0, []⟩
def takeNR : Option NT → PV
  | none => .tup [.d (.agg (encN zeroN)), errno 6]
  | some x => .tup [.d (.agg (encN x)), errno 0]
abbrev failC : List DV := [.lit (.int .u8 0), .lit (.int .i64 0), .lit (.int .i64 0), .lit (.int .i64 0), .lit (.int .i64 0), .lit (.int .i64 0), .lit (.int .i64 0), .lit (.bool false), .lit (.int .i64 0), .lit (.int .i64 0), .lit (.int .i64 0), .lit (.int .i64 0), .lit (.int .i64 0), .lit (.int .i64 0), .lit (.int .i64 0), nlD]
abbrev failNP : PV := .tup [.d (.agg failC), errno 6]
def takeNW : Option NT → PV
  | none => failNP
  | some x => .tup [.d (.agg (encN x)), errno 0]
theorem failN_ok {f : Nat} {b : List UInt8} (h : AFun Try.prog f [byts b] [] failNP []) : AFun Try.prog f [byts b] [] (takeNR none) [] :=
  cle2 h ⟨.inl rfl, .inl rfl, .inl rfl, .inl rfl, .inl rfl, .inl rfl, .inl rfl, .inl rfl, .inl rfl, .inl rfl, .inl rfl, .inl rfl, .inl rfl, .inl rfl, .inl rfl, .inr ⟨rfl, 7, rfl⟩, trivial⟩

def vA (r : List UInt8) (i j : Nat) : Int := if j < i then numI (uS r j) else 0
def cA (k : UInt8) (r : List UInt8) (i : Nat) : List PV := [.d (.lit (.int .u8 k.toNat)), int (vA r i 0), int (vA r i 1), int (vA r i 2), int (vA r i 3), int (vA r i 4), int (vA r i 5), bool (decide (6 < i) && (uS r 6 == 1)), int (vA r i 7), int (vA r i 8), int (vA r i 9), int (vA r i 10), int (vA r i 11), int (vA r i 12), int (vA r i 13), .d nlD]
def nums1 : List PV := [.ptr 1 1, .ptr 1 2, .ptr 1 3, .ptr 1 4, .ptr 1 5, .ptr 1 6, nilP, .ptr 1 8, .ptr 1 9, .ptr 1 10, .ptr 1 11, .ptr 1 12, .ptr 1 13, .ptr 1 14]
theorem tS_B (r : List UInt8) : ∀ i, TkB r.length (tS r i)
  | 0 => fun bs h => by cases h; exact Nat.le_refl _
  | i + 1 => numT_B _ (tS_B r i)
theorem tS_suf (r : List UInt8) : ∀ (i : Nat) (q : List UInt8), tS r i = some q → ∃ p, r = p ++ q
  | 0, q, h => ⟨[], by cases h; rfl⟩
  | i + 1, q, h => by
    obtain ⟨_, h2⟩ := tS_step h
    obtain ⟨p, hp⟩ := tS_suf r i _ h2
    exact ⟨p ++ leb (uS r i), by rw [List.append_assoc]; exact hp⟩
theorem takeSeal_len {b x rest : List UInt8} (h : takeSeal b = some (x, rest)) : x.length ≤ b.length := by
  obtain ⟨h1, _⟩ := takeSeal_some h
  rw [h1, List.length_append, sealed_len]; omega

set_option maxRecDepth 8000 in
set_option maxHeartbeats 8000000 in
theorem noteTakeW (b : List UInt8) (hb : b.length ≤ 10000000) : AFun Try.prog 19 [byts b] [] (takeNW (takeN b)) [] := by
  have cS := sealTake b (by omega)
  rcases hs : takeSeal b with _ | ⟨x, rest⟩
  · have ht : takeN b = none := by unfold takeN; rw [hs]
    rw [ht]; rw [hs] at cS
    show AFun Try.prog 19 [byts b] [] failNP []
    refine AFun.of_walk hP Try.func19 rfl rfl rfl (by simp) rfl ?_
    simp only [Try.f19, am, simprocAttr, tys]
    refine ACall.of (cS) [] [] rfl (by simp) (by simp) (by simp) (by repeat' (first | exact trivial | exact .inl rfl | exact .inr rfl | exact .inr ⟨rfl, rfl, rfl, by simp; done⟩ | exact .inr ⟨rfl, by simp; done⟩ | exact .inr ⟨rfl, rfl, by simp; done⟩ | apply And.intro)) (by repeat' (first | exact trivial | rfl | exact (tkC_ren.1 _ _).symm | (simp; done) | apply And.intro)) (by first | exact .inl rfl | (refine .inr ⟨trivial, ?_⟩; first | (intro row h; rcases List.mem_singleton.1 h with rfl; exact nvB _) | (intro row h; cases h; done) | (simp; done)) | (refine .inr ⟨by simp [nvP, nvP.nvPs, nvD, nilS, errno], ?_⟩; first | (intro row h; rcases List.mem_singleton.1 h with rfl; exact nvB _) | (intro row h; cases h; done) | (simp [nvRow, nvD, nvP]; done))) ?_
    simp only [takeR, nilS, errno, FinR, evRes, evRVs, evRV, am, simprocAttr, tys]
    exact ⟨_, [], [], rfl, Ent.plain rfl rfl rfl trivial rfl, rfl, rfl⟩
  rw [hs] at cS
  have hxl := takeSeal_len hs
  rcases rest with _ | ⟨c, cs⟩
  case' cons =>
    have ht : takeN b = none := by unfold takeN; rw [hs]; cases x <;> rfl
    rw [ht]
    show AFun Try.prog 19 [byts b] [] failNP []
    refine AFun.of_walk hP Try.func19 rfl rfl rfl (by simp) rfl ?_
    have hI : ((0 : Int) < ((c :: cs : List UInt8).length : Nat)) := by rw [List.length_cons]; omega
    generalize (c :: cs : List UInt8) = rest at *
    simp only [Try.f19, am, simprocAttr, tys]
    refine ACall.of (cS) [] [] rfl (by simp) (by simp) (by simp) (by repeat' (first | exact trivial | exact .inl rfl | exact .inr rfl | exact .inr ⟨rfl, rfl, rfl, by simp; done⟩ | exact .inr ⟨rfl, by simp; done⟩ | exact .inr ⟨rfl, rfl, by simp; done⟩ | apply And.intro)) (by repeat' (first | exact trivial | rfl | exact (tkC_ren.1 _ _).symm | (simp; done) | apply And.intro)) (by first | exact .inl rfl | (refine .inr ⟨trivial, ?_⟩; first | (intro row h; rcases List.mem_singleton.1 h with rfl; exact nvB _) | (intro row h; cases h; done) | (simp; done)) | (refine .inr ⟨by simp [nvP, nvP.nvPs, nvD, nilS, errno], ?_⟩; first | (intro row h; rcases List.mem_singleton.1 h with rfl; exact nvB _) | (intro row h; cases h; done) | (simp [nvRow, nvD, nvP]; done))) ?_
    simp only [takeR, byts, errno, hI, List.length_map, FinR, evRes, evRVs, evRV, am, simprocAttr, tys]
    exact ⟨_, [], [], rfl, Ent.plain rfl rfl rfl trivial rfl, rfl, rfl⟩
  rcases x with _ | ⟨k, r⟩
  case' nil =>
    have ht : takeN b = none := by unfold takeN; rw [hs]
    rw [ht]
    show AFun Try.prog 19 [byts b] [] failNP []
    refine AFun.of_walk hP Try.func19 rfl rfl rfl (by simp) rfl ?_
    simp only [Try.f19, am, simprocAttr, tys]
    refine ACall.of (cS) [] [] rfl (by simp) (by simp) (by simp) (by repeat' (first | exact trivial | exact .inl rfl | exact .inr rfl | exact .inr ⟨rfl, rfl, rfl, by simp; done⟩ | exact .inr ⟨rfl, by simp; done⟩ | exact .inr ⟨rfl, rfl, by simp; done⟩ | apply And.intro)) (by repeat' (first | exact trivial | rfl | exact (tkC_ren.1 _ _).symm | (simp; done) | apply And.intro)) (by first | exact .inl rfl | (refine .inr ⟨trivial, ?_⟩; first | (intro row h; rcases List.mem_singleton.1 h with rfl; exact nvB _) | (intro row h; cases h; done) | (simp; done)) | (refine .inr ⟨by simp [nvP, nvP.nvPs, nvD, nilS, errno], ?_⟩; first | (intro row h; rcases List.mem_singleton.1 h with rfl; exact nvB _) | (intro row h; cases h; done) | (simp [nvRow, nvD, nvP]; done))) ?_
    simp only [takeR, byts, errno, List.length_nil, List.length_map, FinR, evRes, evRVs, evRV, am, simprocAttr, tys]
    exact ⟨_, [], [], rfl, Ent.plain rfl rfl rfl trivial rfl, rfl, rfl⟩
  have ht : takeN b = takeB k r := by unfold takeN; rw [hs]
  rw [ht]
  have hrl : r.length + 1 ≤ b.length := by simpa using hxl
  have hE : ((((k :: r : List UInt8).length : Nat) : Int) == 0) = false := by rw [beq_eq_false_iff_ne, List.length_cons]; omega
  have hI1 : ((1 : Int) ≤ (((k :: r : List UInt8).length : Nat) : Int)) := by rw [List.length_cons]; omega
  have h0 : (k :: r : List UInt8)[0]? = some k := rfl
  have hd1 : (k :: r : List UInt8).drop 1 = r := rfl
  have hlen : (k :: r : List UInt8).length = r.length + 1 := rfl
  have hsuf : ∀ q, tS r 15 = some q → (k :: r : List UInt8).drop ((k :: r : List UInt8).length - q.length) = q := fun q hq => by
    obtain ⟨p, hp⟩ := tS_suf r 15 q hq
    have e : (k :: r : List UInt8) = (k :: p) ++ q := by rw [hp]; rfl
    rw [e]; exact drop_tail _ _
  have hB := tS_B r
  generalize (k :: r : List UInt8) = xx at *
  refine AFun.of_walk hP Try.func19 rfl rfl rfl (by simp) rfl ?_
  simp only [Try.f19, am, simprocAttr, tys]
  refine ACall.of (cS) [] [] rfl (by simp) (by simp) (by simp) (by repeat' (first | exact trivial | exact .inl rfl | exact .inr rfl | exact .inr ⟨rfl, rfl, rfl, by simp; done⟩ | exact .inr ⟨rfl, by simp; done⟩ | exact .inr ⟨rfl, rfl, by simp; done⟩ | apply And.intro)) (by repeat' (first | exact trivial | rfl | exact (tkC_ren.1 _ _).symm | (simp; done) | apply And.intro)) (by first | exact .inl rfl | (refine .inr ⟨trivial, ?_⟩; first | (intro row h; rcases List.mem_singleton.1 h with rfl; exact nvB _) | (intro row h; cases h; done) | (simp; done)) | (refine .inr ⟨by simp [nvP, nvP.nvPs, nvD, nilS, errno], ?_⟩; first | (intro row h; rcases List.mem_singleton.1 h with rfl; exact nvB _) | (intro row h; cases h; done) | (simp [nvRow, nvD, nvP]; done))) ?_
  simp only [takeR, byts, errno, hE, hI1, h0, encB, List.length_nil, List.length_map, Int.toNat_zero, Int.toNat_one, Int.toNat_natCast, ← List.map_drop, ← List.map_take, List.take_length, hd1, am, simprocAttr, tys]
  refine ⟨Int.le_refl _, ?_⟩
  refine ACall.of (octsNew r (by omega)) [] [] rfl (by simp) (by simp) (by simp) (by repeat' (first | exact trivial | exact .inl rfl | exact .inr rfl | exact .inr ⟨rfl, rfl, rfl, by simp; done⟩ | exact .inr ⟨rfl, by simp; done⟩ | exact .inr ⟨rfl, rfl, by simp; done⟩ | apply And.intro)) (by repeat' (first | exact trivial | rfl | exact (tkC_ren.1 _ _).symm | (simp; done) | apply And.intro)) (by first | exact .inl rfl | (refine .inr ⟨trivial, ?_⟩; first | (intro row h; rcases List.mem_singleton.1 h with rfl; exact nvB _) | (intro row h; cases h; done) | (simp; done)) | (refine .inr ⟨by simp [nvP, nvP.nvPs, nvD, nilS, errno], ?_⟩; first | (intro row h; rcases List.mem_singleton.1 h with rfl; exact nvB _) | (intro row h; cases h; done) | (simp [nvRow, nvD, nvP]; done))) ?_
  simp only [tkC_ren, am, simprocAttr, tys]
  refine ACall.of (noteNumbersL (fun j => ([.lit (.int .u8 k.toNat), .lit (.int .i64 0), .lit (.int .i64 0), .lit (.int .i64 0), .lit (.int .i64 0), .lit (.int .i64 0), .lit (.int .i64 0), .lit (.bool false), .lit (.int .i64 0), .lit (.int .i64 0), .lit (.int .i64 0), .lit (.int .i64 0), .lit (.int .i64 0), .lit (.int .i64 0), .lit (.int .i64 0), nlD] : List DV).getD j.val nlD)) [1] [] rfl (by simp) (by simp) (by simp) (by repeat' (first | exact trivial | exact .inl rfl | exact .inr rfl | exact .inr ⟨rfl, rfl, rfl, by simp; done⟩ | exact .inr ⟨rfl, by simp; done⟩ | exact .inr ⟨rfl, rfl, by simp; done⟩ | apply And.intro)) (by repeat' (first | exact trivial | rfl | exact (tkC_ren.1 _ _).symm | (simp; done) | apply And.intro)) (by first | exact .inl rfl | (refine .inr ⟨trivial, ?_⟩; first | (intro row h; rcases List.mem_singleton.1 h with rfl; exact nvB _) | (intro row h; cases h; done) | (simp; done)) | (refine .inr ⟨by simp [nvP, nvP.nvPs, nvD, nilS, errno], ?_⟩; first | (intro row h; rcases List.mem_singleton.1 h with rfl; exact nvB _) | (intro row h; cases h; done) | (simp [nvRow, nvD, nvP]; done))) ?_
  simp only [nums, nilP, am, simprocAttr, tys]
  refine ALoopW.intro 102 0 (ι := { i : Nat // i ≤ 14 ∧ (6 < i → uS r 6 ≤ 1) }) (fun i => [(2, .ptr 0 0), (4, byts xx), (7, .ptr 1 0), (8, .ptr 2 0), (41, .own 3), (42, int 14), (43, int i.1)]) (fun i => [.box (failC.map .d), .box (cA k r i.1), .box (tkC (tS r i.1)), .box nums1]) (fun i => 14 - i.1) ⟨0, by omega, by omega⟩ [] [0, 1, 2, 3] ?_ (fun ⟨i, hi, h6i⟩ => ?_)
  · exact ⟨rfl, rfl, by simp, (fun i hi => absurd hi (Nat.not_lt_zero _)), ⟨.inr rfl, .inr rfl, .inr rfl, .inr rfl, .inr rfl, .inr rfl, .inr rfl, trivial⟩, ⟨.inr ⟨by decide, rfl⟩, .inr ⟨by decide, rfl⟩, .inr ⟨by decide, rfl⟩, .inr ⟨by decide, rfl⟩, trivial⟩, rfl, by decide, rfl, (by first | rfl | simp [scRow, tkC_scs])⟩
  simp only at hi h6i ⊢
  have hBj : ∀ j, ∀ bs, tS r j = some bs → bs.length ≤ 100000000000000 := fun j bs e => by have := hB j bs e; omega
  have hcases : i = 0 ∨ i = 1 ∨ i = 2 ∨ i = 3 ∨ i = 4 ∨ i = 5 ∨ i = 6 ∨ i = 7 ∨ i = 8 ∨ i = 9 ∨ i = 10 ∨ i = 11 ∨ i = 12 ∨ i = 13 ∨ i = 14 := by omega
  rcases hcases with rfl | rfl | rfl | rfl | rfl | rfl | rfl | rfl | rfl | rfl | rfl | rfl | rfl | rfl | rfl
  · simp only [cA, vA, nums1, int, bool, nilP, am, simprocAttr, tys]
    refine ACall.of (tkNum (tS r 0) (hBj 0)) [2] [] rfl (by simp) (by simp) (by simp) (by repeat' (first | exact trivial | exact .inl rfl | exact .inr rfl | exact .inr ⟨rfl, rfl, rfl, by simp; done⟩ | exact .inr ⟨rfl, by simp; done⟩ | exact .inr ⟨rfl, rfl, by simp; done⟩ | apply And.intro)) (by repeat' (first | exact trivial | rfl | exact (tkC_ren.1 _ _).symm | (simp; done) | apply And.intro)) (by first | exact .inl rfl | (refine .inr ⟨trivial, ?_⟩; first | (intro row h; rcases List.mem_singleton.1 h with rfl; exact nvB _) | (intro row h; cases h; done) | (simp; done)) | (refine .inr ⟨by simp [nvP, nvP.nvPs, nvD, nilS, errno], ?_⟩; first | (intro row h; rcases List.mem_singleton.1 h with rfl; exact nvB _) | (intro row h; cases h; done) | (simp [nvRow, nvD, nvP]; done))) ?_
    simp only [u64, cA, vA, nums1, int, bool, nilP, tkC_ren, am, simprocAttr, tys]
    exact ⟨⟨1, by omega, fun h => by omega⟩, [], [0, 1, 2, 3], ⟨rfl, rfl, by simp, (fun i hi => absurd hi (Nat.not_lt_zero _)), ⟨.inr rfl, .inr rfl, .inr rfl, .inr rfl, .inr rfl, .inr rfl, .inr rfl, trivial⟩, ⟨.inr ⟨by decide, rfl⟩, .inr ⟨by decide, rfl⟩, .inr ⟨by decide, tkC_row _ _ _ _⟩, .inr ⟨by decide, rfl⟩, trivial⟩, rfl, by decide, rfl, by simp [scRow, tkC_scs, scBs, scB]⟩, by show 14 - 1 < 14 - 0; omega⟩
  · simp only [cA, vA, nums1, int, bool, nilP, am, simprocAttr, tys]
    refine ACall.of (tkNum (tS r 1) (hBj 1)) [2] [] rfl (by simp) (by simp) (by simp) (by repeat' (first | exact trivial | exact .inl rfl | exact .inr rfl | exact .inr ⟨rfl, rfl, rfl, by simp; done⟩ | exact .inr ⟨rfl, by simp; done⟩ | exact .inr ⟨rfl, rfl, by simp; done⟩ | apply And.intro)) (by repeat' (first | exact trivial | rfl | exact (tkC_ren.1 _ _).symm | (simp; done) | apply And.intro)) (by first | exact .inl rfl | (refine .inr ⟨trivial, ?_⟩; first | (intro row h; rcases List.mem_singleton.1 h with rfl; exact nvB _) | (intro row h; cases h; done) | (simp; done)) | (refine .inr ⟨by simp [nvP, nvP.nvPs, nvD, nilS, errno], ?_⟩; first | (intro row h; rcases List.mem_singleton.1 h with rfl; exact nvB _) | (intro row h; cases h; done) | (simp [nvRow, nvD, nvP]; done))) ?_
    simp only [u64, cA, vA, nums1, int, bool, nilP, tkC_ren, am, simprocAttr, tys]
    exact ⟨⟨2, by omega, fun h => by omega⟩, [], [0, 1, 2, 3], ⟨rfl, rfl, by simp, (fun i hi => absurd hi (Nat.not_lt_zero _)), ⟨.inr rfl, .inr rfl, .inr rfl, .inr rfl, .inr rfl, .inr rfl, .inr rfl, trivial⟩, ⟨.inr ⟨by decide, rfl⟩, .inr ⟨by decide, rfl⟩, .inr ⟨by decide, tkC_row _ _ _ _⟩, .inr ⟨by decide, rfl⟩, trivial⟩, rfl, by decide, rfl, by simp [scRow, tkC_scs, scBs, scB]⟩, by show 14 - 2 < 14 - 1; omega⟩
  · simp only [cA, vA, nums1, int, bool, nilP, am, simprocAttr, tys]
    refine ACall.of (tkNum (tS r 2) (hBj 2)) [2] [] rfl (by simp) (by simp) (by simp) (by repeat' (first | exact trivial | exact .inl rfl | exact .inr rfl | exact .inr ⟨rfl, rfl, rfl, by simp; done⟩ | exact .inr ⟨rfl, by simp; done⟩ | exact .inr ⟨rfl, rfl, by simp; done⟩ | apply And.intro)) (by repeat' (first | exact trivial | rfl | exact (tkC_ren.1 _ _).symm | (simp; done) | apply And.intro)) (by first | exact .inl rfl | (refine .inr ⟨trivial, ?_⟩; first | (intro row h; rcases List.mem_singleton.1 h with rfl; exact nvB _) | (intro row h; cases h; done) | (simp; done)) | (refine .inr ⟨by simp [nvP, nvP.nvPs, nvD, nilS, errno], ?_⟩; first | (intro row h; rcases List.mem_singleton.1 h with rfl; exact nvB _) | (intro row h; cases h; done) | (simp [nvRow, nvD, nvP]; done))) ?_
    simp only [u64, cA, vA, nums1, int, bool, nilP, tkC_ren, am, simprocAttr, tys]
    exact ⟨⟨3, by omega, fun h => by omega⟩, [], [0, 1, 2, 3], ⟨rfl, rfl, by simp, (fun i hi => absurd hi (Nat.not_lt_zero _)), ⟨.inr rfl, .inr rfl, .inr rfl, .inr rfl, .inr rfl, .inr rfl, .inr rfl, trivial⟩, ⟨.inr ⟨by decide, rfl⟩, .inr ⟨by decide, rfl⟩, .inr ⟨by decide, tkC_row _ _ _ _⟩, .inr ⟨by decide, rfl⟩, trivial⟩, rfl, by decide, rfl, by simp [scRow, tkC_scs, scBs, scB]⟩, by show 14 - 3 < 14 - 2; omega⟩
  · simp only [cA, vA, nums1, int, bool, nilP, am, simprocAttr, tys]
    refine ACall.of (tkNum (tS r 3) (hBj 3)) [2] [] rfl (by simp) (by simp) (by simp) (by repeat' (first | exact trivial | exact .inl rfl | exact .inr rfl | exact .inr ⟨rfl, rfl, rfl, by simp; done⟩ | exact .inr ⟨rfl, by simp; done⟩ | exact .inr ⟨rfl, rfl, by simp; done⟩ | apply And.intro)) (by repeat' (first | exact trivial | rfl | exact (tkC_ren.1 _ _).symm | (simp; done) | apply And.intro)) (by first | exact .inl rfl | (refine .inr ⟨trivial, ?_⟩; first | (intro row h; rcases List.mem_singleton.1 h with rfl; exact nvB _) | (intro row h; cases h; done) | (simp; done)) | (refine .inr ⟨by simp [nvP, nvP.nvPs, nvD, nilS, errno], ?_⟩; first | (intro row h; rcases List.mem_singleton.1 h with rfl; exact nvB _) | (intro row h; cases h; done) | (simp [nvRow, nvD, nvP]; done))) ?_
    simp only [u64, cA, vA, nums1, int, bool, nilP, tkC_ren, am, simprocAttr, tys]
    exact ⟨⟨4, by omega, fun h => by omega⟩, [], [0, 1, 2, 3], ⟨rfl, rfl, by simp, (fun i hi => absurd hi (Nat.not_lt_zero _)), ⟨.inr rfl, .inr rfl, .inr rfl, .inr rfl, .inr rfl, .inr rfl, .inr rfl, trivial⟩, ⟨.inr ⟨by decide, rfl⟩, .inr ⟨by decide, rfl⟩, .inr ⟨by decide, tkC_row _ _ _ _⟩, .inr ⟨by decide, rfl⟩, trivial⟩, rfl, by decide, rfl, by simp [scRow, tkC_scs, scBs, scB]⟩, by show 14 - 4 < 14 - 3; omega⟩
  · simp only [cA, vA, nums1, int, bool, nilP, am, simprocAttr, tys]
    refine ACall.of (tkNum (tS r 4) (hBj 4)) [2] [] rfl (by simp) (by simp) (by simp) (by repeat' (first | exact trivial | exact .inl rfl | exact .inr rfl | exact .inr ⟨rfl, rfl, rfl, by simp; done⟩ | exact .inr ⟨rfl, by simp; done⟩ | exact .inr ⟨rfl, rfl, by simp; done⟩ | apply And.intro)) (by repeat' (first | exact trivial | rfl | exact (tkC_ren.1 _ _).symm | (simp; done) | apply And.intro)) (by first | exact .inl rfl | (refine .inr ⟨trivial, ?_⟩; first | (intro row h; rcases List.mem_singleton.1 h with rfl; exact nvB _) | (intro row h; cases h; done) | (simp; done)) | (refine .inr ⟨by simp [nvP, nvP.nvPs, nvD, nilS, errno], ?_⟩; first | (intro row h; rcases List.mem_singleton.1 h with rfl; exact nvB _) | (intro row h; cases h; done) | (simp [nvRow, nvD, nvP]; done))) ?_
    simp only [u64, cA, vA, nums1, int, bool, nilP, tkC_ren, am, simprocAttr, tys]
    exact ⟨⟨5, by omega, fun h => by omega⟩, [], [0, 1, 2, 3], ⟨rfl, rfl, by simp, (fun i hi => absurd hi (Nat.not_lt_zero _)), ⟨.inr rfl, .inr rfl, .inr rfl, .inr rfl, .inr rfl, .inr rfl, .inr rfl, trivial⟩, ⟨.inr ⟨by decide, rfl⟩, .inr ⟨by decide, rfl⟩, .inr ⟨by decide, tkC_row _ _ _ _⟩, .inr ⟨by decide, rfl⟩, trivial⟩, rfl, by decide, rfl, by simp [scRow, tkC_scs, scBs, scB]⟩, by show 14 - 5 < 14 - 4; omega⟩
  · simp only [cA, vA, nums1, int, bool, nilP, am, simprocAttr, tys]
    refine ACall.of (tkNum (tS r 5) (hBj 5)) [2] [] rfl (by simp) (by simp) (by simp) (by repeat' (first | exact trivial | exact .inl rfl | exact .inr rfl | exact .inr ⟨rfl, rfl, rfl, by simp; done⟩ | exact .inr ⟨rfl, by simp; done⟩ | exact .inr ⟨rfl, rfl, by simp; done⟩ | apply And.intro)) (by repeat' (first | exact trivial | rfl | exact (tkC_ren.1 _ _).symm | (simp; done) | apply And.intro)) (by first | exact .inl rfl | (refine .inr ⟨trivial, ?_⟩; first | (intro row h; rcases List.mem_singleton.1 h with rfl; exact nvB _) | (intro row h; cases h; done) | (simp; done)) | (refine .inr ⟨by simp [nvP, nvP.nvPs, nvD, nilS, errno], ?_⟩; first | (intro row h; rcases List.mem_singleton.1 h with rfl; exact nvB _) | (intro row h; cases h; done) | (simp [nvRow, nvD, nvP]; done))) ?_
    simp only [u64, cA, vA, nums1, int, bool, nilP, tkC_ren, am, simprocAttr, tys]
    exact ⟨⟨6, by omega, fun h => by omega⟩, [], [0, 1, 2, 3], ⟨rfl, rfl, by simp, (fun i hi => absurd hi (Nat.not_lt_zero _)), ⟨.inr rfl, .inr rfl, .inr rfl, .inr rfl, .inr rfl, .inr rfl, .inr rfl, trivial⟩, ⟨.inr ⟨by decide, rfl⟩, .inr ⟨by decide, rfl⟩, .inr ⟨by decide, tkC_row _ _ _ _⟩, .inr ⟨by decide, rfl⟩, trivial⟩, rfl, by decide, rfl, by simp [scRow, tkC_scs, scBs, scB]⟩, by show 14 - 6 < 14 - 5; omega⟩
  · rcases Nat.lt_or_ge 1 (uS r 6) with h1 | h1
    · have ht2 : takeB k r = none := by unfold takeB; rw [if_pos h1]
      have hI : ((1 : Int) < ((uS r 6 : Nat) : Int)) := by omega
      have hI' : ((1 : Int) < (((numT (tS r 6)).1 : Nat) : Int)) := hI
      rw [ht2]
      simp only [takeNW]
      simp only [cA, vA, nums1, int, bool, nilP, am, simprocAttr, tys]
      refine ACall.of (tkNum (tS r 6) (hBj 6)) [2] [] rfl (by simp) (by simp) (by simp) (by repeat' (first | exact trivial | exact .inl rfl | exact .inr rfl | exact .inr ⟨rfl, rfl, rfl, by simp; done⟩ | exact .inr ⟨rfl, by simp; done⟩ | exact .inr ⟨rfl, rfl, by simp; done⟩ | apply And.intro)) (by repeat' (first | exact trivial | rfl | exact (tkC_ren.1 _ _).symm | (simp; done) | apply And.intro)) (by first | exact .inl rfl | (refine .inr ⟨trivial, ?_⟩; first | (intro row h; rcases List.mem_singleton.1 h with rfl; exact nvB _) | (intro row h; cases h; done) | (simp; done)) | (refine .inr ⟨by simp [nvP, nvP.nvPs, nvD, nilS, errno], ?_⟩; first | (intro row h; rcases List.mem_singleton.1 h with rfl; exact nvB _) | (intro row h; cases h; done) | (simp [nvRow, nvD, nvP]; done))) ?_
      simp only [u64, hI', cA, vA, nums1, int, bool, nilP, tkC_ren, errno, FinR, evRes, evRVs, evRV, am, simprocAttr, tys]
      exact ⟨_, [], [], rfl, Ent.plain rfl rfl rfl trivial rfl, rfl, rfl⟩
    · have hI : ¬ ((1 : Int) < ((uS r 6 : Nat) : Int)) := by omega
      have hI' : ¬ ((1 : Int) < (((numT (tS r 6)).1 : Nat) : Int)) := hI
      have hq : ((((numT (tS r 6)).1 : Nat) : Int) == 1) = (uS r 6 == 1) := by
        show (((uS r 6 : Nat) : Int) == 1) = (uS r 6 == 1)
        rw [Bool.eq_iff_iff, beq_iff_eq, beq_iff_eq]; omega
      simp only [cA, vA, nums1, int, bool, nilP, am, simprocAttr, tys]
      refine ACall.of (tkNum (tS r 6) (hBj 6)) [2] [] rfl (by simp) (by simp) (by simp) (by repeat' (first | exact trivial | exact .inl rfl | exact .inr rfl | exact .inr ⟨rfl, rfl, rfl, by simp; done⟩ | exact .inr ⟨rfl, by simp; done⟩ | exact .inr ⟨rfl, rfl, by simp; done⟩ | apply And.intro)) (by repeat' (first | exact trivial | rfl | exact (tkC_ren.1 _ _).symm | (simp; done) | apply And.intro)) (by first | exact .inl rfl | (refine .inr ⟨trivial, ?_⟩; first | (intro row h; rcases List.mem_singleton.1 h with rfl; exact nvB _) | (intro row h; cases h; done) | (simp; done)) | (refine .inr ⟨by simp [nvP, nvP.nvPs, nvD, nilS, errno], ?_⟩; first | (intro row h; rcases List.mem_singleton.1 h with rfl; exact nvB _) | (intro row h; cases h; done) | (simp [nvRow, nvD, nvP]; done))) ?_
      simp only [u64, hI', hq, cA, vA, nums1, int, bool, nilP, tkC_ren, am, simprocAttr, tys]
      exact ⟨⟨7, by omega, fun _ => h1⟩, [], [0, 1, 2, 3], ⟨rfl, rfl, by simp, (fun i hi => absurd hi (Nat.not_lt_zero _)), ⟨.inr rfl, .inr rfl, .inr rfl, .inr rfl, .inr rfl, .inr rfl, .inr rfl, trivial⟩, ⟨.inr ⟨by decide, rfl⟩, .inr ⟨by decide, rfl⟩, .inr ⟨by decide, tkC_row _ _ _ _⟩, .inr ⟨by decide, rfl⟩, trivial⟩, rfl, by decide, rfl, by simp [scRow, tkC_scs, scBs, scB]⟩, by show 14 - 7 < 14 - 6; omega⟩
  · simp only [cA, vA, nums1, int, bool, nilP, am, simprocAttr, tys]
    refine ACall.of (tkNum (tS r 7) (hBj 7)) [2] [] rfl (by simp) (by simp) (by simp) (by repeat' (first | exact trivial | exact .inl rfl | exact .inr rfl | exact .inr ⟨rfl, rfl, rfl, by simp; done⟩ | exact .inr ⟨rfl, by simp; done⟩ | exact .inr ⟨rfl, rfl, by simp; done⟩ | apply And.intro)) (by repeat' (first | exact trivial | rfl | exact (tkC_ren.1 _ _).symm | (simp; done) | apply And.intro)) (by first | exact .inl rfl | (refine .inr ⟨trivial, ?_⟩; first | (intro row h; rcases List.mem_singleton.1 h with rfl; exact nvB _) | (intro row h; cases h; done) | (simp; done)) | (refine .inr ⟨by simp [nvP, nvP.nvPs, nvD, nilS, errno], ?_⟩; first | (intro row h; rcases List.mem_singleton.1 h with rfl; exact nvB _) | (intro row h; cases h; done) | (simp [nvRow, nvD, nvP]; done))) ?_
    simp only [u64, cA, vA, nums1, int, bool, nilP, tkC_ren, am, simprocAttr, tys]
    exact ⟨⟨8, by omega, fun _ => h6i (by omega)⟩, [], [0, 1, 2, 3], ⟨rfl, rfl, by simp, (fun i hi => absurd hi (Nat.not_lt_zero _)), ⟨.inr rfl, .inr rfl, .inr rfl, .inr rfl, .inr rfl, .inr rfl, .inr rfl, trivial⟩, ⟨.inr ⟨by decide, rfl⟩, .inr ⟨by decide, rfl⟩, .inr ⟨by decide, tkC_row _ _ _ _⟩, .inr ⟨by decide, rfl⟩, trivial⟩, rfl, by decide, rfl, by simp [scRow, tkC_scs, scBs, scB]⟩, by show 14 - 8 < 14 - 7; omega⟩
  · simp only [cA, vA, nums1, int, bool, nilP, am, simprocAttr, tys]
    refine ACall.of (tkNum (tS r 8) (hBj 8)) [2] [] rfl (by simp) (by simp) (by simp) (by repeat' (first | exact trivial | exact .inl rfl | exact .inr rfl | exact .inr ⟨rfl, rfl, rfl, by simp; done⟩ | exact .inr ⟨rfl, by simp; done⟩ | exact .inr ⟨rfl, rfl, by simp; done⟩ | apply And.intro)) (by repeat' (first | exact trivial | rfl | exact (tkC_ren.1 _ _).symm | (simp; done) | apply And.intro)) (by first | exact .inl rfl | (refine .inr ⟨trivial, ?_⟩; first | (intro row h; rcases List.mem_singleton.1 h with rfl; exact nvB _) | (intro row h; cases h; done) | (simp; done)) | (refine .inr ⟨by simp [nvP, nvP.nvPs, nvD, nilS, errno], ?_⟩; first | (intro row h; rcases List.mem_singleton.1 h with rfl; exact nvB _) | (intro row h; cases h; done) | (simp [nvRow, nvD, nvP]; done))) ?_
    simp only [u64, cA, vA, nums1, int, bool, nilP, tkC_ren, am, simprocAttr, tys]
    exact ⟨⟨9, by omega, fun _ => h6i (by omega)⟩, [], [0, 1, 2, 3], ⟨rfl, rfl, by simp, (fun i hi => absurd hi (Nat.not_lt_zero _)), ⟨.inr rfl, .inr rfl, .inr rfl, .inr rfl, .inr rfl, .inr rfl, .inr rfl, trivial⟩, ⟨.inr ⟨by decide, rfl⟩, .inr ⟨by decide, rfl⟩, .inr ⟨by decide, tkC_row _ _ _ _⟩, .inr ⟨by decide, rfl⟩, trivial⟩, rfl, by decide, rfl, by simp [scRow, tkC_scs, scBs, scB]⟩, by show 14 - 9 < 14 - 8; omega⟩
  · simp only [cA, vA, nums1, int, bool, nilP, am, simprocAttr, tys]
    refine ACall.of (tkNum (tS r 9) (hBj 9)) [2] [] rfl (by simp) (by simp) (by simp) (by repeat' (first | exact trivial | exact .inl rfl | exact .inr rfl | exact .inr ⟨rfl, rfl, rfl, by simp; done⟩ | exact .inr ⟨rfl, by simp; done⟩ | exact .inr ⟨rfl, rfl, by simp; done⟩ | apply And.intro)) (by repeat' (first | exact trivial | rfl | exact (tkC_ren.1 _ _).symm | (simp; done) | apply And.intro)) (by first | exact .inl rfl | (refine .inr ⟨trivial, ?_⟩; first | (intro row h; rcases List.mem_singleton.1 h with rfl; exact nvB _) | (intro row h; cases h; done) | (simp; done)) | (refine .inr ⟨by simp [nvP, nvP.nvPs, nvD, nilS, errno], ?_⟩; first | (intro row h; rcases List.mem_singleton.1 h with rfl; exact nvB _) | (intro row h; cases h; done) | (simp [nvRow, nvD, nvP]; done))) ?_
    simp only [u64, cA, vA, nums1, int, bool, nilP, tkC_ren, am, simprocAttr, tys]
    exact ⟨⟨10, by omega, fun _ => h6i (by omega)⟩, [], [0, 1, 2, 3], ⟨rfl, rfl, by simp, (fun i hi => absurd hi (Nat.not_lt_zero _)), ⟨.inr rfl, .inr rfl, .inr rfl, .inr rfl, .inr rfl, .inr rfl, .inr rfl, trivial⟩, ⟨.inr ⟨by decide, rfl⟩, .inr ⟨by decide, rfl⟩, .inr ⟨by decide, tkC_row _ _ _ _⟩, .inr ⟨by decide, rfl⟩, trivial⟩, rfl, by decide, rfl, by simp [scRow, tkC_scs, scBs, scB]⟩, by show 14 - 10 < 14 - 9; omega⟩
  · simp only [cA, vA, nums1, int, bool, nilP, am, simprocAttr, tys]
    refine ACall.of (tkNum (tS r 10) (hBj 10)) [2] [] rfl (by simp) (by simp) (by simp) (by repeat' (first | exact trivial | exact .inl rfl | exact .inr rfl | exact .inr ⟨rfl, rfl, rfl, by simp; done⟩ | exact .inr ⟨rfl, by simp; done⟩ | exact .inr ⟨rfl, rfl, by simp; done⟩ | apply And.intro)) (by repeat' (first | exact trivial | rfl | exact (tkC_ren.1 _ _).symm | (simp; done) | apply And.intro)) (by first | exact .inl rfl | (refine .inr ⟨trivial, ?_⟩; first | (intro row h; rcases List.mem_singleton.1 h with rfl; exact nvB _) | (intro row h; cases h; done) | (simp; done)) | (refine .inr ⟨by simp [nvP, nvP.nvPs, nvD, nilS, errno], ?_⟩; first | (intro row h; rcases List.mem_singleton.1 h with rfl; exact nvB _) | (intro row h; cases h; done) | (simp [nvRow, nvD, nvP]; done))) ?_
    simp only [u64, cA, vA, nums1, int, bool, nilP, tkC_ren, am, simprocAttr, tys]
    exact ⟨⟨11, by omega, fun _ => h6i (by omega)⟩, [], [0, 1, 2, 3], ⟨rfl, rfl, by simp, (fun i hi => absurd hi (Nat.not_lt_zero _)), ⟨.inr rfl, .inr rfl, .inr rfl, .inr rfl, .inr rfl, .inr rfl, .inr rfl, trivial⟩, ⟨.inr ⟨by decide, rfl⟩, .inr ⟨by decide, rfl⟩, .inr ⟨by decide, tkC_row _ _ _ _⟩, .inr ⟨by decide, rfl⟩, trivial⟩, rfl, by decide, rfl, by simp [scRow, tkC_scs, scBs, scB]⟩, by show 14 - 11 < 14 - 10; omega⟩
  · simp only [cA, vA, nums1, int, bool, nilP, am, simprocAttr, tys]
    refine ACall.of (tkNum (tS r 11) (hBj 11)) [2] [] rfl (by simp) (by simp) (by simp) (by repeat' (first | exact trivial | exact .inl rfl | exact .inr rfl | exact .inr ⟨rfl, rfl, rfl, by simp; done⟩ | exact .inr ⟨rfl, by simp; done⟩ | exact .inr ⟨rfl, rfl, by simp; done⟩ | apply And.intro)) (by repeat' (first | exact trivial | rfl | exact (tkC_ren.1 _ _).symm | (simp; done) | apply And.intro)) (by first | exact .inl rfl | (refine .inr ⟨trivial, ?_⟩; first | (intro row h; rcases List.mem_singleton.1 h with rfl; exact nvB _) | (intro row h; cases h; done) | (simp; done)) | (refine .inr ⟨by simp [nvP, nvP.nvPs, nvD, nilS, errno], ?_⟩; first | (intro row h; rcases List.mem_singleton.1 h with rfl; exact nvB _) | (intro row h; cases h; done) | (simp [nvRow, nvD, nvP]; done))) ?_
    simp only [u64, cA, vA, nums1, int, bool, nilP, tkC_ren, am, simprocAttr, tys]
    exact ⟨⟨12, by omega, fun _ => h6i (by omega)⟩, [], [0, 1, 2, 3], ⟨rfl, rfl, by simp, (fun i hi => absurd hi (Nat.not_lt_zero _)), ⟨.inr rfl, .inr rfl, .inr rfl, .inr rfl, .inr rfl, .inr rfl, .inr rfl, trivial⟩, ⟨.inr ⟨by decide, rfl⟩, .inr ⟨by decide, rfl⟩, .inr ⟨by decide, tkC_row _ _ _ _⟩, .inr ⟨by decide, rfl⟩, trivial⟩, rfl, by decide, rfl, by simp [scRow, tkC_scs, scBs, scB]⟩, by show 14 - 12 < 14 - 11; omega⟩
  · simp only [cA, vA, nums1, int, bool, nilP, am, simprocAttr, tys]
    refine ACall.of (tkNum (tS r 12) (hBj 12)) [2] [] rfl (by simp) (by simp) (by simp) (by repeat' (first | exact trivial | exact .inl rfl | exact .inr rfl | exact .inr ⟨rfl, rfl, rfl, by simp; done⟩ | exact .inr ⟨rfl, by simp; done⟩ | exact .inr ⟨rfl, rfl, by simp; done⟩ | apply And.intro)) (by repeat' (first | exact trivial | rfl | exact (tkC_ren.1 _ _).symm | (simp; done) | apply And.intro)) (by first | exact .inl rfl | (refine .inr ⟨trivial, ?_⟩; first | (intro row h; rcases List.mem_singleton.1 h with rfl; exact nvB _) | (intro row h; cases h; done) | (simp; done)) | (refine .inr ⟨by simp [nvP, nvP.nvPs, nvD, nilS, errno], ?_⟩; first | (intro row h; rcases List.mem_singleton.1 h with rfl; exact nvB _) | (intro row h; cases h; done) | (simp [nvRow, nvD, nvP]; done))) ?_
    simp only [u64, cA, vA, nums1, int, bool, nilP, tkC_ren, am, simprocAttr, tys]
    exact ⟨⟨13, by omega, fun _ => h6i (by omega)⟩, [], [0, 1, 2, 3], ⟨rfl, rfl, by simp, (fun i hi => absurd hi (Nat.not_lt_zero _)), ⟨.inr rfl, .inr rfl, .inr rfl, .inr rfl, .inr rfl, .inr rfl, .inr rfl, trivial⟩, ⟨.inr ⟨by decide, rfl⟩, .inr ⟨by decide, rfl⟩, .inr ⟨by decide, tkC_row _ _ _ _⟩, .inr ⟨by decide, rfl⟩, trivial⟩, rfl, by decide, rfl, by simp [scRow, tkC_scs, scBs, scB]⟩, by show 14 - 13 < 14 - 12; omega⟩
  · simp only [cA, vA, nums1, int, bool, nilP, am, simprocAttr, tys]
    refine ACall.of (tkNum (tS r 13) (hBj 13)) [2] [] rfl (by simp) (by simp) (by simp) (by repeat' (first | exact trivial | exact .inl rfl | exact .inr rfl | exact .inr ⟨rfl, rfl, rfl, by simp; done⟩ | exact .inr ⟨rfl, by simp; done⟩ | exact .inr ⟨rfl, rfl, by simp; done⟩ | apply And.intro)) (by repeat' (first | exact trivial | rfl | exact (tkC_ren.1 _ _).symm | (simp; done) | apply And.intro)) (by first | exact .inl rfl | (refine .inr ⟨trivial, ?_⟩; first | (intro row h; rcases List.mem_singleton.1 h with rfl; exact nvB _) | (intro row h; cases h; done) | (simp; done)) | (refine .inr ⟨by simp [nvP, nvP.nvPs, nvD, nilS, errno], ?_⟩; first | (intro row h; rcases List.mem_singleton.1 h with rfl; exact nvB _) | (intro row h; cases h; done) | (simp [nvRow, nvD, nvP]; done))) ?_
    simp only [u64, cA, vA, nums1, int, bool, nilP, tkC_ren, am, simprocAttr, tys]
    exact ⟨⟨14, by omega, fun _ => h6i (by omega)⟩, [], [0, 1, 2, 3], ⟨rfl, rfl, by simp, (fun i hi => absurd hi (Nat.not_lt_zero _)), ⟨.inr rfl, .inr rfl, .inr rfl, .inr rfl, .inr rfl, .inr rfl, .inr rfl, trivial⟩, ⟨.inr ⟨by decide, rfl⟩, .inr ⟨by decide, rfl⟩, .inr ⟨by decide, tkC_row _ _ _ _⟩, .inr ⟨by decide, rfl⟩, trivial⟩, rfl, by decide, rfl, by simp [scRow, tkC_scs, scBs, scB]⟩, by show 14 - 14 < 14 - 13; omega⟩
  have h6 : ¬ (1 < uS r 6) := by have := h6i (by omega); omega
  have eU : (numT (tS r 14)).1 = uS r 14 := rfl
  have eT : (numT (tS r 14)).2 = tS r 15 := rfl
  simp only [cA, vA, nums1, int, bool, nilP, am, simprocAttr, tys]
  refine ACall.of (tkNum (tS r 14) (hBj 14)) [2] [] rfl (by simp) (by simp) (by simp) (by repeat' (first | exact trivial | exact .inl rfl | exact .inr rfl | exact .inr ⟨rfl, rfl, rfl, by simp; done⟩ | exact .inr ⟨rfl, by simp; done⟩ | exact .inr ⟨rfl, rfl, by simp; done⟩ | apply And.intro)) (by repeat' (first | exact trivial | rfl | exact (tkC_ren.1 _ _).symm | (simp; done) | apply And.intro)) (by first | exact .inl rfl | (refine .inr ⟨trivial, ?_⟩; first | (intro row h; rcases List.mem_singleton.1 h with rfl; exact nvB _) | (intro row h; cases h; done) | (simp; done)) | (refine .inr ⟨by simp [nvP, nvP.nvPs, nvD, nilS, errno], ?_⟩; first | (intro row h; rcases List.mem_singleton.1 h with rfl; exact nvB _) | (intro row h; cases h; done) | (simp [nvRow, nvD, nvP]; done))) ?_
  rcases Nat.lt_or_ge 300 (uS r 14) with h3 | h3
  · have ht2 : takeB k r = none := by unfold takeB; rw [if_neg h6, if_pos h3]
    have hI : ((300 : Int) < ((uS r 14 : Nat) : Int)) := by omega
    rw [ht2]
    simp only [takeNW]
    simp only [u64, eU, eT, hI, tkC_ren, errno, FinR, evRes, evRVs, evRV, am, simprocAttr, tys]
    exact ⟨_, [], [], rfl, Ent.plain rfl rfl rfl trivial rfl, rfl, rfl⟩
  have hI3 : ¬ ((300 : Int) < ((uS r 14 : Nat) : Int)) := by omega
  have hB15 := hB 15
  rcases h15 : tS r 15 with _ | q
  · have ht2 : takeB k r = none := by unfold takeB; rw [if_neg h6, if_neg (Nat.not_lt.2 h3), h15]
    rw [ht2]
    simp only [takeNW]
    simp only [u64, eU, eT, hI3, h15, tkC_ren, am, simprocAttr, tys]
    refine ACall.of (tkLeft none) [2] [] rfl (by simp) (by simp) (by simp) (by repeat' (first | exact trivial | exact .inl rfl | exact .inr rfl | exact .inr ⟨rfl, rfl, rfl, by simp; done⟩ | exact .inr ⟨rfl, by simp; done⟩ | exact .inr ⟨rfl, rfl, by simp; done⟩ | apply And.intro)) (by repeat' (first | exact trivial | rfl | exact (tkC_ren.1 _ _).symm | (simp; done) | apply And.intro)) (by first | exact .inl rfl | (refine .inr ⟨trivial, ?_⟩; first | (intro row h; rcases List.mem_singleton.1 h with rfl; exact nvB _) | (intro row h; cases h; done) | (simp; done)) | (refine .inr ⟨by simp [nvP, nvP.nvPs, nvD, nilS, errno], ?_⟩; first | (intro row h; rcases List.mem_singleton.1 h with rfl; exact nvB _) | (intro row h; cases h; done) | (simp [nvRow, nvD, nvP]; done))) ?_
    simp only [leftT, int, tkC_ren, am, simprocAttr, tys]
    refine ACall.of (tkEnd none) [2] [] rfl (by simp) (by simp) (by simp) (by repeat' (first | exact trivial | exact .inl rfl | exact .inr rfl | exact .inr ⟨rfl, rfl, rfl, by simp; done⟩ | exact .inr ⟨rfl, by simp; done⟩ | exact .inr ⟨rfl, rfl, by simp; done⟩ | apply And.intro)) (by repeat' (first | exact trivial | rfl | exact (tkC_ren.1 _ _).symm | (simp; done) | apply And.intro)) (by first | exact .inl rfl | (refine .inr ⟨trivial, ?_⟩; first | (intro row h; rcases List.mem_singleton.1 h with rfl; exact nvB _) | (intro row h; cases h; done) | (simp; done)) | (refine .inr ⟨by simp [nvP, nvP.nvPs, nvD, nilS, errno], ?_⟩; first | (intro row h; rcases List.mem_singleton.1 h with rfl; exact nvB _) | (intro row h; cases h; done) | (simp [nvRow, nvD, nvP]; done))) ?_
    simp only [endT, errno, tkC_ren, FinR, evRes, evRVs, evRV, am, simprocAttr, tys]
    exact ⟨_, [], [], rfl, Ent.plain rfl rfl rfl trivial rfl, rfl, rfl⟩
  have hq := hsuf q h15
  have hql : q.length ≤ r.length := hB15 q h15
  have hTB : takeB k r = match decN takeE (uS r 14) q with
      | some (l, []) => if rightN (mkN k r l) = true then some (mkN k r l) else none
      | _ => none := by unfold takeB; rw [if_neg h6, if_neg (Nat.not_lt.2 h3), h15]; rfl
  have w1 : IntKind.i64.wrap (((xx.length : Nat) : Int) - ((q.length : Nat) : Int)) = ((xx.length - q.length : Nat) : Int) := by rw [IntWalk.i64_in _ (by omega)]; omega
  have hs1 : ((0 : Int) ≤ ((xx.length - q.length : Nat) : Int)) := by omega
  have hs2 : (((xx.length - q.length : Nat) : Int) ≤ ((xx.length : Nat) : Int)) := by omega
  simp only [u64, eU, eT, hI3, h15, tkC_ren, am, simprocAttr, tys]
  refine ACall.of (tkLeft (some q)) [2] [] rfl (by simp) (by simp) (by simp) (by repeat' (first | exact trivial | exact .inl rfl | exact .inr rfl | exact .inr ⟨rfl, rfl, rfl, by simp; done⟩ | exact .inr ⟨rfl, by simp; done⟩ | exact .inr ⟨rfl, rfl, by simp; done⟩ | apply And.intro)) (by repeat' (first | exact trivial | rfl | exact (tkC_ren.1 _ _).symm | (simp; done) | apply And.intro)) (by first | exact .inl rfl | (refine .inr ⟨trivial, ?_⟩; first | (intro row h; rcases List.mem_singleton.1 h with rfl; exact nvB _) | (intro row h; cases h; done) | (simp; done)) | (refine .inr ⟨by simp [nvP, nvP.nvPs, nvD, nilS, errno], ?_⟩; first | (intro row h; rcases List.mem_singleton.1 h with rfl; exact nvB _) | (intro row h; cases h; done) | (simp [nvRow, nvD, nvP]; done))) ?_
  have cE := noteEntries q (uS r 14) (by omega) (by omega)
  by_cases hq0 : q.length = 0
  · have hL : (((q.length : Nat) : Int) == 0) = true := by rw [beq_iff_eq]; omega
    have hN : endT (some q) = 0 := by rw [List.length_eq_zero_iff.1 hq0]; rfl
    simp only [leftT, int, hL, tkC_ren, am, simprocAttr, tys]
    refine ACall.of (tkEnd (some q)) [2] [] rfl (by simp) (by simp) (by simp) (by repeat' (first | exact trivial | exact .inl rfl | exact .inr rfl | exact .inr ⟨rfl, rfl, rfl, by simp; done⟩ | exact .inr ⟨rfl, by simp; done⟩ | exact .inr ⟨rfl, rfl, by simp; done⟩ | apply And.intro)) (by repeat' (first | exact trivial | rfl | exact (tkC_ren.1 _ _).symm | (simp; done) | apply And.intro)) (by first | exact .inl rfl | (refine .inr ⟨trivial, ?_⟩; first | (intro row h; rcases List.mem_singleton.1 h with rfl; exact nvB _) | (intro row h; cases h; done) | (simp; done)) | (refine .inr ⟨by simp [nvP, nvP.nvPs, nvD, nilS, errno], ?_⟩; first | (intro row h; rcases List.mem_singleton.1 h with rfl; exact nvB _) | (intro row h; cases h; done) | (simp [nvRow, nvD, nvP]; done))) ?_
    simp only [hN, byts, int, errno, List.length_map, tkC_ren, am, simprocAttr, tys]
    refine ACall.of (tkLeft (some q)) [2] [] rfl (by simp) (by simp) (by simp) (by repeat' (first | exact trivial | exact .inl rfl | exact .inr rfl | exact .inr ⟨rfl, rfl, rfl, by simp; done⟩ | exact .inr ⟨rfl, by simp; done⟩ | exact .inr ⟨rfl, rfl, by simp; done⟩ | apply And.intro)) (by repeat' (first | exact trivial | rfl | exact (tkC_ren.1 _ _).symm | (simp; done) | apply And.intro)) (by first | exact .inl rfl | (refine .inr ⟨trivial, ?_⟩; first | (intro row h; rcases List.mem_singleton.1 h with rfl; exact nvB _) | (intro row h; cases h; done) | (simp; done)) | (refine .inr ⟨by simp [nvP, nvP.nvPs, nvD, nilS, errno], ?_⟩; first | (intro row h; rcases List.mem_singleton.1 h with rfl; exact nvB _) | (intro row h; cases h; done) | (simp [nvRow, nvD, nvP]; done))) ?_
    simp only [leftT, int, byts, w1, hs1, hs2, hq, List.length_map, ← List.map_take, List.take_length, ← List.map_drop, Int.toNat_natCast, tkC_ren, am, simprocAttr, tys]
    refine ⟨Int.le_refl _, ?_⟩
    have hdk := decE_some (uS r 14) q
    rcases hde : decN takeE (uS r 14) q with _ | ⟨l, r'⟩
    · rw [hde] at cE hTB
      simp only at hTB
      rw [hTB]
      simp only [takeNW]
      simp only [entR, u64, nilS, bool] at cE
      refine ACall.of (cE) [] [] rfl (by simp) (by simp) (by simp) (by repeat' (first | exact trivial | exact .inl rfl | exact .inr rfl | exact .inr ⟨rfl, rfl, rfl, by simp; done⟩ | exact .inr ⟨rfl, by simp; done⟩ | exact .inr ⟨rfl, rfl, by simp; done⟩ | apply And.intro)) (by repeat' (first | exact trivial | rfl | exact (tkC_ren.1 _ _).symm | (simp; done) | apply And.intro)) (by first | exact .inl rfl | (refine .inr ⟨trivial, ?_⟩; first | (intro row h; rcases List.mem_singleton.1 h with rfl; exact nvB _) | (intro row h; cases h; done) | (simp; done)) | (refine .inr ⟨by simp [nvP, nvP.nvPs, nvD, nilS, errno], ?_⟩; first | (intro row h; rcases List.mem_singleton.1 h with rfl; exact nvB _) | (intro row h; cases h; done) | (simp [nvRow, nvD, nvP]; done))) ?_
      simp only [nilS, bool, errno, FinR, evRes, evRVs, evRV, am, simprocAttr, tys]
      exact ⟨_, [], [], rfl, Ent.plain rfl rfl rfl trivial rfl, rfl, rfl⟩
    obtain ⟨d1, d2, d3, d4⟩ := hdk l r' hde
    rcases r' with _ | ⟨c', r'⟩
    case' cons =>
      rw [hde] at cE hTB
      simp only at hTB
      rw [hTB]
      simp only [takeNW]
      have hne : decide ((c' :: r' : List UInt8) = []) = false := decide_eq_false (by simp)
      simp only [entR, u64, nilS, bool, hne] at cE
      refine ACall.of (cE) [] [] rfl (by simp) (by simp) (by simp) (by repeat' (first | exact trivial | exact .inl rfl | exact .inr rfl | exact .inr ⟨rfl, rfl, rfl, by simp; done⟩ | exact .inr ⟨rfl, by simp; done⟩ | exact .inr ⟨rfl, rfl, by simp; done⟩ | apply And.intro)) (by repeat' (first | exact trivial | rfl | exact (tkC_ren.1 _ _).symm | (simp; done) | apply And.intro)) (by first | exact .inl rfl | (refine .inr ⟨trivial, ?_⟩; first | (intro row h; rcases List.mem_singleton.1 h with rfl; exact nvB _) | (intro row h; cases h; done) | (simp; done)) | (refine .inr ⟨by simp [nvP, nvP.nvPs, nvD, nilS, errno], ?_⟩; first | (intro row h; rcases List.mem_singleton.1 h with rfl; exact nvB _) | (intro row h; cases h; done) | (simp [nvRow, nvD, nvP]; done))) ?_
      simp only [nilS, bool, errno, FinR, evRes, evRVs, evRV, am, simprocAttr, tys]
      exact ⟨_, [], [], rfl, Ent.plain rfl rfl rfl trivial rfl, rfl, rfl⟩
    rw [hde] at cE hTB
    simp only at hTB
    have cR := noteRight (mkN k r l) (mkN_fit k r (by omega) d3)
    simp only [entR, u64, nilS, bool, decide_true] at cE
    rcases hr : rightN (mkN k r l) with _ | _
    · rw [hr] at cR hTB
      rw [if_neg (by simp)] at hTB
      rw [hTB]
      simp only [takeNW]
      simp only [encN, mkN] at cR
      refine ACall.of (cE) [] [] rfl (by simp) (by simp) (by simp) (by repeat' (first | exact trivial | exact .inl rfl | exact .inr rfl | exact .inr ⟨rfl, rfl, rfl, by simp; done⟩ | exact .inr ⟨rfl, by simp; done⟩ | exact .inr ⟨rfl, rfl, by simp; done⟩ | apply And.intro)) (by repeat' (first | exact trivial | rfl | exact (tkC_ren.1 _ _).symm | (simp; done) | apply And.intro)) (by first | exact .inl rfl | (refine .inr ⟨trivial, ?_⟩; first | (intro row h; rcases List.mem_singleton.1 h with rfl; exact nvB _) | (intro row h; cases h; done) | (simp; done)) | (refine .inr ⟨by simp [nvP, nvP.nvPs, nvD, nilS, errno], ?_⟩; first | (intro row h; rcases List.mem_singleton.1 h with rfl; exact nvB _) | (intro row h; cases h; done) | (simp [nvRow, nvD, nvP]; done))) ?_
      simp only [nilS, bool, errno, am, simprocAttr, tys]
      refine ACall.of (cR) [] [] rfl (by simp) (by simp) (by simp) (by repeat' (first | exact trivial | exact .inl rfl | exact .inr rfl | exact .inr ⟨rfl, rfl, rfl, by simp; done⟩ | exact .inr ⟨rfl, by simp; done⟩ | exact .inr ⟨rfl, rfl, by simp; done⟩ | apply And.intro)) (by repeat' (first | exact trivial | rfl | exact (tkC_ren.1 _ _).symm | (simp; done) | apply And.intro)) (by first | exact .inl rfl | (refine .inr ⟨trivial, ?_⟩; first | (intro row h; rcases List.mem_singleton.1 h with rfl; exact nvB _) | (intro row h; cases h; done) | (simp; done)) | (refine .inr ⟨by simp [nvP, nvP.nvPs, nvD, nilS, errno], ?_⟩; first | (intro row h; rcases List.mem_singleton.1 h with rfl; exact nvB _) | (intro row h; cases h; done) | (simp [nvRow, nvD, nvP]; done))) ?_
      simp only [nilS, bool, errno, FinR, evRes, evRVs, evRV, am, simprocAttr, tys]
      exact ⟨_, [], [], rfl, Ent.plain rfl rfl rfl trivial rfl, rfl, rfl⟩
    · rw [hr] at cR hTB
      rw [if_pos rfl] at hTB
      rw [hTB]
      simp only [takeNW]
      simp only [encN, mkN] at cR
      refine ACall.of (cE) [] [] rfl (by simp) (by simp) (by simp) (by repeat' (first | exact trivial | exact .inl rfl | exact .inr rfl | exact .inr ⟨rfl, rfl, rfl, by simp; done⟩ | exact .inr ⟨rfl, by simp; done⟩ | exact .inr ⟨rfl, rfl, by simp; done⟩ | apply And.intro)) (by repeat' (first | exact trivial | rfl | exact (tkC_ren.1 _ _).symm | (simp; done) | apply And.intro)) (by first | exact .inl rfl | (refine .inr ⟨trivial, ?_⟩; first | (intro row h; rcases List.mem_singleton.1 h with rfl; exact nvB _) | (intro row h; cases h; done) | (simp; done)) | (refine .inr ⟨by simp [nvP, nvP.nvPs, nvD, nilS, errno], ?_⟩; first | (intro row h; rcases List.mem_singleton.1 h with rfl; exact nvB _) | (intro row h; cases h; done) | (simp [nvRow, nvD, nvP]; done))) ?_
      simp only [nilS, bool, errno, am, simprocAttr, tys]
      refine ACall.of (cR) [] [] rfl (by simp) (by simp) (by simp) (by repeat' (first | exact trivial | exact .inl rfl | exact .inr rfl | exact .inr ⟨rfl, rfl, rfl, by simp; done⟩ | exact .inr ⟨rfl, by simp; done⟩ | exact .inr ⟨rfl, rfl, by simp; done⟩ | apply And.intro)) (by repeat' (first | exact trivial | rfl | exact (tkC_ren.1 _ _).symm | (simp; done) | apply And.intro)) (by first | exact .inl rfl | (refine .inr ⟨trivial, ?_⟩; first | (intro row h; rcases List.mem_singleton.1 h with rfl; exact nvB _) | (intro row h; cases h; done) | (simp; done)) | (refine .inr ⟨by simp [nvP, nvP.nvPs, nvD, nilS, errno], ?_⟩; first | (intro row h; rcases List.mem_singleton.1 h with rfl; exact nvB _) | (intro row h; cases h; done) | (simp [nvRow, nvD, nvP]; done))) ?_
      simp only [nilS, bool, errno, encN, mkN, FinR, evRes, evRVs, evRV, am, simprocAttr, tys]
      exact ⟨_, [], [], rfl, Ent.plain rfl rfl rfl trivial rfl, rfl, rfl⟩
  · have hL : (((q.length : Nat) : Int) == 0) = false := by rw [beq_eq_false_iff_ne]; omega
    simp only [leftT, int, byts, hL, List.length_map, tkC_ren, am, simprocAttr, tys]
    refine ACall.of (tkLeft (some q)) [2] [] rfl (by simp) (by simp) (by simp) (by repeat' (first | exact trivial | exact .inl rfl | exact .inr rfl | exact .inr ⟨rfl, rfl, rfl, by simp; done⟩ | exact .inr ⟨rfl, by simp; done⟩ | exact .inr ⟨rfl, rfl, by simp; done⟩ | apply And.intro)) (by repeat' (first | exact trivial | rfl | exact (tkC_ren.1 _ _).symm | (simp; done) | apply And.intro)) (by first | exact .inl rfl | (refine .inr ⟨trivial, ?_⟩; first | (intro row h; rcases List.mem_singleton.1 h with rfl; exact nvB _) | (intro row h; cases h; done) | (simp; done)) | (refine .inr ⟨by simp [nvP, nvP.nvPs, nvD, nilS, errno], ?_⟩; first | (intro row h; rcases List.mem_singleton.1 h with rfl; exact nvB _) | (intro row h; cases h; done) | (simp [nvRow, nvD, nvP]; done))) ?_
    simp only [leftT, int, byts, w1, hs1, hs2, hq, List.length_map, ← List.map_take, List.take_length, ← List.map_drop, Int.toNat_natCast, tkC_ren, am, simprocAttr, tys]
    refine ⟨Int.le_refl _, ?_⟩
    have hdk := decE_some (uS r 14) q
    rcases hde : decN takeE (uS r 14) q with _ | ⟨l, r'⟩
    · rw [hde] at cE hTB
      simp only at hTB
      rw [hTB]
      simp only [takeNW]
      simp only [entR, u64, nilS, bool] at cE
      refine ACall.of (cE) [] [] rfl (by simp) (by simp) (by simp) (by repeat' (first | exact trivial | exact .inl rfl | exact .inr rfl | exact .inr ⟨rfl, rfl, rfl, by simp; done⟩ | exact .inr ⟨rfl, by simp; done⟩ | exact .inr ⟨rfl, rfl, by simp; done⟩ | apply And.intro)) (by repeat' (first | exact trivial | rfl | exact (tkC_ren.1 _ _).symm | (simp; done) | apply And.intro)) (by first | exact .inl rfl | (refine .inr ⟨trivial, ?_⟩; first | (intro row h; rcases List.mem_singleton.1 h with rfl; exact nvB _) | (intro row h; cases h; done) | (simp; done)) | (refine .inr ⟨by simp [nvP, nvP.nvPs, nvD, nilS, errno], ?_⟩; first | (intro row h; rcases List.mem_singleton.1 h with rfl; exact nvB _) | (intro row h; cases h; done) | (simp [nvRow, nvD, nvP]; done))) ?_
      simp only [nilS, bool, errno, FinR, evRes, evRVs, evRV, am, simprocAttr, tys]
      exact ⟨_, [], [], rfl, Ent.plain rfl rfl rfl trivial rfl, rfl, rfl⟩
    obtain ⟨d1, d2, d3, d4⟩ := hdk l r' hde
    rcases r' with _ | ⟨c', r'⟩
    case' cons =>
      rw [hde] at cE hTB
      simp only at hTB
      rw [hTB]
      simp only [takeNW]
      have hne : decide ((c' :: r' : List UInt8) = []) = false := decide_eq_false (by simp)
      simp only [entR, u64, nilS, bool, hne] at cE
      refine ACall.of (cE) [] [] rfl (by simp) (by simp) (by simp) (by repeat' (first | exact trivial | exact .inl rfl | exact .inr rfl | exact .inr ⟨rfl, rfl, rfl, by simp; done⟩ | exact .inr ⟨rfl, by simp; done⟩ | exact .inr ⟨rfl, rfl, by simp; done⟩ | apply And.intro)) (by repeat' (first | exact trivial | rfl | exact (tkC_ren.1 _ _).symm | (simp; done) | apply And.intro)) (by first | exact .inl rfl | (refine .inr ⟨trivial, ?_⟩; first | (intro row h; rcases List.mem_singleton.1 h with rfl; exact nvB _) | (intro row h; cases h; done) | (simp; done)) | (refine .inr ⟨by simp [nvP, nvP.nvPs, nvD, nilS, errno], ?_⟩; first | (intro row h; rcases List.mem_singleton.1 h with rfl; exact nvB _) | (intro row h; cases h; done) | (simp [nvRow, nvD, nvP]; done))) ?_
      simp only [nilS, bool, errno, FinR, evRes, evRVs, evRV, am, simprocAttr, tys]
      exact ⟨_, [], [], rfl, Ent.plain rfl rfl rfl trivial rfl, rfl, rfl⟩
    rw [hde] at cE hTB
    simp only at hTB
    have cR := noteRight (mkN k r l) (mkN_fit k r (by omega) d3)
    simp only [entR, u64, nilS, bool, decide_true] at cE
    rcases hr : rightN (mkN k r l) with _ | _
    · rw [hr] at cR hTB
      rw [if_neg (by simp)] at hTB
      rw [hTB]
      simp only [takeNW]
      simp only [encN, mkN] at cR
      refine ACall.of (cE) [] [] rfl (by simp) (by simp) (by simp) (by repeat' (first | exact trivial | exact .inl rfl | exact .inr rfl | exact .inr ⟨rfl, rfl, rfl, by simp; done⟩ | exact .inr ⟨rfl, by simp; done⟩ | exact .inr ⟨rfl, rfl, by simp; done⟩ | apply And.intro)) (by repeat' (first | exact trivial | rfl | exact (tkC_ren.1 _ _).symm | (simp; done) | apply And.intro)) (by first | exact .inl rfl | (refine .inr ⟨trivial, ?_⟩; first | (intro row h; rcases List.mem_singleton.1 h with rfl; exact nvB _) | (intro row h; cases h; done) | (simp; done)) | (refine .inr ⟨by simp [nvP, nvP.nvPs, nvD, nilS, errno], ?_⟩; first | (intro row h; rcases List.mem_singleton.1 h with rfl; exact nvB _) | (intro row h; cases h; done) | (simp [nvRow, nvD, nvP]; done))) ?_
      simp only [nilS, bool, errno, am, simprocAttr, tys]
      refine ACall.of (cR) [] [] rfl (by simp) (by simp) (by simp) (by repeat' (first | exact trivial | exact .inl rfl | exact .inr rfl | exact .inr ⟨rfl, rfl, rfl, by simp; done⟩ | exact .inr ⟨rfl, by simp; done⟩ | exact .inr ⟨rfl, rfl, by simp; done⟩ | apply And.intro)) (by repeat' (first | exact trivial | rfl | exact (tkC_ren.1 _ _).symm | (simp; done) | apply And.intro)) (by first | exact .inl rfl | (refine .inr ⟨trivial, ?_⟩; first | (intro row h; rcases List.mem_singleton.1 h with rfl; exact nvB _) | (intro row h; cases h; done) | (simp; done)) | (refine .inr ⟨by simp [nvP, nvP.nvPs, nvD, nilS, errno], ?_⟩; first | (intro row h; rcases List.mem_singleton.1 h with rfl; exact nvB _) | (intro row h; cases h; done) | (simp [nvRow, nvD, nvP]; done))) ?_
      simp only [nilS, bool, errno, FinR, evRes, evRVs, evRV, am, simprocAttr, tys]
      exact ⟨_, [], [], rfl, Ent.plain rfl rfl rfl trivial rfl, rfl, rfl⟩
    · rw [hr] at cR hTB
      rw [if_pos rfl] at hTB
      rw [hTB]
      simp only [takeNW]
      simp only [encN, mkN] at cR
      refine ACall.of (cE) [] [] rfl (by simp) (by simp) (by simp) (by repeat' (first | exact trivial | exact .inl rfl | exact .inr rfl | exact .inr ⟨rfl, rfl, rfl, by simp; done⟩ | exact .inr ⟨rfl, by simp; done⟩ | exact .inr ⟨rfl, rfl, by simp; done⟩ | apply And.intro)) (by repeat' (first | exact trivial | rfl | exact (tkC_ren.1 _ _).symm | (simp; done) | apply And.intro)) (by first | exact .inl rfl | (refine .inr ⟨trivial, ?_⟩; first | (intro row h; rcases List.mem_singleton.1 h with rfl; exact nvB _) | (intro row h; cases h; done) | (simp; done)) | (refine .inr ⟨by simp [nvP, nvP.nvPs, nvD, nilS, errno], ?_⟩; first | (intro row h; rcases List.mem_singleton.1 h with rfl; exact nvB _) | (intro row h; cases h; done) | (simp [nvRow, nvD, nvP]; done))) ?_
      simp only [nilS, bool, errno, am, simprocAttr, tys]
      refine ACall.of (cR) [] [] rfl (by simp) (by simp) (by simp) (by repeat' (first | exact trivial | exact .inl rfl | exact .inr rfl | exact .inr ⟨rfl, rfl, rfl, by simp; done⟩ | exact .inr ⟨rfl, by simp; done⟩ | exact .inr ⟨rfl, rfl, by simp; done⟩ | apply And.intro)) (by repeat' (first | exact trivial | rfl | exact (tkC_ren.1 _ _).symm | (simp; done) | apply And.intro)) (by first | exact .inl rfl | (refine .inr ⟨trivial, ?_⟩; first | (intro row h; rcases List.mem_singleton.1 h with rfl; exact nvB _) | (intro row h; cases h; done) | (simp; done)) | (refine .inr ⟨by simp [nvP, nvP.nvPs, nvD, nilS, errno], ?_⟩; first | (intro row h; rcases List.mem_singleton.1 h with rfl; exact nvB _) | (intro row h; cases h; done) | (simp [nvRow, nvD, nvP]; done))) ?_
      simp only [nilS, bool, errno, encN, mkN, FinR, evRes, evRVs, evRV, am, simprocAttr, tys]
      exact ⟨_, [], [], rfl, Ent.plain rfl rfl rfl trivial rfl, rfl, rfl⟩

theorem noteTake (b : List UInt8) (hb : b.length ≤ 10000000) : AFun Try.prog 19 [byts b] [] (takeNR (takeN b)) [] := by
  have h := noteTakeW b hb
  rcases hq : takeN b with _ | x
  · rw [hq] at h; exact failN_ok h
  · rw [hq] at h; exact h
theorem noteTakeF (b : List UInt8) (hb : b.length ≤ 10000000) (hn : takeN b = none) : AFun Try.prog 19 [byts b] [] failNP [] := by
  have h := noteTakeW b hb
  rwa [hn] at h
end Go.Proofs.Ytflpphgccjlkjaa

set_option linter.unusedSimpArgs false
set_option linter.unusedVariables false
namespace Go.Proofs.Ytflpphgccjlkjaa
open Go Go.AM

theorem min3000 (n : Nat) : (if (3000 : Int) < n then (3000 : Int) else n) = ((min n 3000 : Nat) : Int) := by
  by_cases h : 3000 < n
  · rw [if_pos (by omega), Nat.min_eq_right (by omega)]; rfl
  · rw [if_neg (by omega), Nat.min_eq_left (by omega)]
theorem take_min' (bs : List UInt8) (k : Nat) : bs.take (min bs.length k) = bs.take k := by
  rw [Nat.min_comm]; exact List.take_eq_take_min.symm
theorem AFun.arg2 {f : Nat} {p q q' : PV} {r : PV} {out : List Row} (h : AFun Try.prog f [p, q] [] r out) (hp : ∀ rows β w X v, repP rows β w X q' v → repP rows β w X q v) : AFun Try.prog f [p, q'] [] r out := by
  intro B β X w vs hk h0 hm hq
  refine h B β X w vs hk h0 hm ?_
  unfold repPs at *
  obtain ⟨u, us, e, h1, h2⟩ := hq
  refine ⟨u, us, e, h1, ?_⟩
  unfold repPs at *
  obtain ⟨u2, us2, e2, h3, h4⟩ := h2
  exact ⟨u2, us2, e2, hp _ _ _ _ _ h3, h4⟩
theorem zeroN_rep (rows : AM.Rows) (β : Nat → AM.Loc) (w : World) (X : Nat → Prop) (v : Value) (h : repP rows β w X (.d (.agg failC)) v) : repP rows β w X (.d (.agg (encN zeroN))) v := by
  unfold repP rep at *
  obtain ⟨vs, e, h⟩ := h
  have hc : cle failC (encN zeroN) := ⟨.inl rfl, .inl rfl, .inl rfl, .inl rfl, .inl rfl, .inl rfl, .inl rfl, .inl rfl, .inl rfl, .inl rfl, .inl rfl, .inl rfl, .inl rfl, .inl rfl, .inl rfl, .inr ⟨rfl, 7, rfl⟩, trivial⟩
  exact ⟨vs, e, reps_cle hc h⟩
theorem fitZ : FitN zeroN := ⟨by decide, by simp [zeroN]⟩
theorem rightZ : rightN zeroN = false := by decide
theorem noteSameZ : AFun Try.prog 13 [.d (.agg (encN zeroN)), .d (.agg failC)] [] (bool true) [] := by
  have h := noteSame zeroN zeroN fitZ fitZ
  rw [sameN_refl] at h
  exact AFun.arg2 h zeroN_rep
theorem takeN_nil : takeN [] = none := by decide

set_option maxRecDepth 8000 in
set_option maxHeartbeats 4000000 in
theorem lawNoteBack (a : NT) (b : List UInt8) (ha : FitN a) (hb : b.length ≤ 9223372036854775807) :
    AFun Try.prog 8 [.d (.agg (encN a)), byts b] [] (bool true) [] := by
  refine AFun.of_walk hP Try.func8 rfl rfl rfl (by simp) rfl ?_
  have hx : (b.take 3000).length ≤ 3000 := by simp; omega
  have fa := few17 a ha
  have fitA := fewN_fit ha
  generalize fewN a = A at *
  have cR := noteRight A fitA
  have cS := refNSame A A fitA fitA
  rw [sameN_refl] at cS
  have cPN := notePutN A fitA
  have cP := notePut A fitA
  have cZ := notePutN zeroN fitZ rightZ
  have cSZ := noteSameZ
  have cTN := noteTake [] (by simp)
  rw [takeN_nil] at cTN
  have cT : rightN A = true → AFun Try.prog 19 [byts (sealed (bodyN A))] [] (takeNR (some A)) [] := fun hr => by
    have h1 := bodyN_len hr fitA
    have h2 := leb_ten (bodyN A).length (by omega)
    have := noteTake (sealed (bodyN A)) (by rw [sealed_len]; omega)
    rwa [takeN_put hr fitA] at this
  simp only [encN, zeroN, failC, takeNR, List.map_nil] at fa cR cS cPN cP cZ cSZ cTN cT
  simp only [Try.f8, encN, am, simprocAttr, tys]
  refine ACall.of (shown17) [] [] rfl (by simp) (by simp) (by simp) (by repeat' (first | exact trivial | exact .inl rfl | exact .inr rfl | exact .inr ⟨rfl, rfl, rfl, by simp; done⟩ | exact .inr ⟨rfl, by simp; done⟩ | exact .inr ⟨rfl, rfl, by simp; done⟩ | apply And.intro)) (by repeat' (first | exact trivial | rfl | exact (tkC_ren.1 _ _).symm | (simp; done) | apply And.intro)) (by first | exact .inl rfl | (refine .inr ⟨trivial, ?_⟩; first | (intro row h; rcases List.mem_singleton.1 h with rfl; exact nvB _) | (intro row h; cases h; done) | (simp; done)) | (refine .inr ⟨by simp [nvP, nvP.nvPs, nvD, nilS, errno], ?_⟩; first | (intro row h; rcases List.mem_singleton.1 h with rfl; exact nvB _) | (intro row h; cases h; done) | (simp [nvRow, nvD, nvP]; done))) ?_
  simp only [bool, am, simprocAttr, tys]
  refine ACall.of (fa) [] [] rfl (by simp) (by simp) (by simp) (by repeat' (first | exact trivial | exact .inl rfl | exact .inr rfl | exact .inr ⟨rfl, rfl, rfl, by simp; done⟩ | exact .inr ⟨rfl, by simp; done⟩ | exact .inr ⟨rfl, rfl, by simp; done⟩ | apply And.intro)) (by repeat' (first | exact trivial | rfl | exact (tkC_ren.1 _ _).symm | (simp; done) | apply And.intro)) (by first | exact .inl rfl | (refine .inr ⟨trivial, ?_⟩; first | (intro row h; rcases List.mem_singleton.1 h with rfl; exact nvB _) | (intro row h; cases h; done) | (simp; done)) | (refine .inr ⟨by simp [nvP, nvP.nvPs, nvD, nilS, errno], ?_⟩; first | (intro row h; rcases List.mem_singleton.1 h with rfl; exact nvB _) | (intro row h; cases h; done) | (simp [nvRow, nvD, nvP]; done))) ?_
  simp only [am, simprocAttr, tys]
  rcases hr : rightN A with _ | _
  · rw [hr] at cR
    refine ACall.of (cPN hr) [] [] rfl (by simp) (by simp) (by simp) (by repeat' (first | exact trivial | exact .inl rfl | exact .inr rfl | exact .inr ⟨rfl, rfl, rfl, by simp; done⟩ | exact .inr ⟨rfl, by simp; done⟩ | exact .inr ⟨rfl, rfl, by simp; done⟩ | apply And.intro)) (by repeat' (first | exact trivial | rfl | exact (tkC_ren.1 _ _).symm | (simp; done) | apply And.intro)) (by first | exact .inl rfl | (refine .inr ⟨trivial, ?_⟩; first | (intro row h; rcases List.mem_singleton.1 h with rfl; exact nvB _) | (intro row h; cases h; done) | (simp; done)) | (refine .inr ⟨by simp [nvP, nvP.nvPs, nvD, nilS, errno], ?_⟩; first | (intro row h; rcases List.mem_singleton.1 h with rfl; exact nvB _) | (intro row h; cases h; done) | (simp [nvRow, nvD, nvP]; done))) ?_
    simp only [nilS, errno, am, simprocAttr, tys]
    refine ACall.of (cTN) [] [] rfl (by simp) (by simp) (by simp) (by repeat' (first | exact trivial | exact .inl rfl | exact .inr rfl | exact .inr ⟨rfl, rfl, rfl, by simp; done⟩ | exact .inr ⟨rfl, by simp; done⟩ | exact .inr ⟨rfl, rfl, by simp; done⟩ | apply And.intro)) (by repeat' (first | exact trivial | rfl | exact (tkC_ren.1 _ _).symm | (simp; done) | apply And.intro)) (by first | exact .inl rfl | (refine .inr ⟨trivial, ?_⟩; first | (intro row h; rcases List.mem_singleton.1 h with rfl; exact nvB _) | (intro row h; cases h; done) | (simp; done)) | (refine .inr ⟨by simp [nvP, nvP.nvPs, nvD, nilS, errno], ?_⟩; first | (intro row h; rcases List.mem_singleton.1 h with rfl; exact nvB _) | (intro row h; cases h; done) | (simp [nvRow, nvD, nvP]; done))) ?_
    simp only [nilS, errno, am, simprocAttr, tys]
    refine ACallD.of (fa) (by kernel_rfl) [] [] rfl (by simp) (by simp) (by simp) (by simp) (by repeat' (first | exact trivial | exact .inl rfl | exact .inr rfl | exact .inr ⟨rfl, rfl, rfl, by simp; done⟩ | exact .inr ⟨rfl, by simp; done⟩ | exact .inr ⟨rfl, rfl, by simp; done⟩ | apply And.intro)) (by repeat' (first | exact trivial | rfl | exact (tkC_ren.1 _ _).symm | (simp; done) | apply And.intro)) (by first | exact .inl rfl | (refine .inr ⟨trivial, ?_⟩; first | (intro row h; rcases List.mem_singleton.1 h with rfl; exact nvB _) | (intro row h; cases h; done) | (simp; done)) | (refine .inr ⟨by simp [nvP, nvP.nvPs, nvD, nilS, errno], ?_⟩; first | (intro row h; rcases List.mem_singleton.1 h with rfl; exact nvB _) | (intro row h; cases h; done) | (simp [nvRow, nvD, nvP]; done))) rfl rfl rfl rfl ?_
    simp only [am, simprocAttr, tys]
    refine ACallD.of (cR) (by kernel_rfl) [] [] rfl (by simp) (by simp) (by simp) (by simp) (by repeat' (first | exact trivial | exact .inl rfl | exact .inr rfl | exact .inr ⟨rfl, rfl, rfl, by simp; done⟩ | exact .inr ⟨rfl, by simp; done⟩ | exact .inr ⟨rfl, rfl, by simp; done⟩ | apply And.intro)) (by repeat' (first | exact trivial | rfl | exact (tkC_ren.1 _ _).symm | (simp; done) | apply And.intro)) (by first | exact .inl rfl | (refine .inr ⟨trivial, ?_⟩; first | (intro row h; rcases List.mem_singleton.1 h with rfl; exact nvB _) | (intro row h; cases h; done) | (simp; done)) | (refine .inr ⟨by simp [nvP, nvP.nvPs, nvD, nilS, errno], ?_⟩; first | (intro row h; rcases List.mem_singleton.1 h with rfl; exact nvB _) | (intro row h; cases h; done) | (simp [nvRow, nvD, nvP]; done))) rfl rfl rfl rfl ?_
    simp only [bool, nilS, errno, am, simprocAttr, tys]
    refine ⟨by kernel_rfl, ?_⟩
    simp only [byts, bool, min3000, take_min', Int.natCast_nonneg, Int.toNat_natCast, ← List.map_take, List.drop_zero, am, simprocAttr, tys]
    refine ⟨by omega, ?_⟩
    generalize b.take 3000 = x at *
    have c1 := noteTake x (by omega)
    rcases hk : takeN x with _ | y
    · rw [hk] at c1
      simp only [takeNR, encN, zeroN, List.map_nil] at c1
      refine ACall.of (c1) [] [] rfl (by simp) (by simp) (by simp) (by repeat' (first | exact trivial | exact .inl rfl | exact .inr rfl | exact .inr ⟨rfl, rfl, rfl, by simp; done⟩ | exact .inr ⟨rfl, by simp; done⟩ | exact .inr ⟨rfl, rfl, by simp; done⟩ | apply And.intro)) (by repeat' (first | exact trivial | rfl | exact (tkC_ren.1 _ _).symm | (simp; done) | apply And.intro)) (by first | exact .inl rfl | (refine .inr ⟨trivial, ?_⟩; first | (intro row h; rcases List.mem_singleton.1 h with rfl; exact nvB _) | (intro row h; cases h; done) | (simp; done)) | (refine .inr ⟨by simp [nvP, nvP.nvPs, nvD, nilS, errno], ?_⟩; first | (intro row h; rcases List.mem_singleton.1 h with rfl; exact nvB _) | (intro row h; cases h; done) | (simp [nvRow, nvD, nvP]; done))) ?_
      simp only [errno, am, simprocAttr, tys]
      refine ACall.of (cZ) [] [] rfl (by simp) (by simp) (by simp) (by repeat' (first | exact trivial | exact .inl rfl | exact .inr rfl | exact .inr ⟨rfl, rfl, rfl, by simp; done⟩ | exact .inr ⟨rfl, by simp; done⟩ | exact .inr ⟨rfl, rfl, by simp; done⟩ | apply And.intro)) (by repeat' (first | exact trivial | rfl | exact (tkC_ren.1 _ _).symm | (simp; done) | apply And.intro)) (by first | exact .inl rfl | (refine .inr ⟨trivial, ?_⟩; first | (intro row h; rcases List.mem_singleton.1 h with rfl; exact nvB _) | (intro row h; cases h; done) | (simp; done)) | (refine .inr ⟨by simp [nvP, nvP.nvPs, nvD, nilS, errno], ?_⟩; first | (intro row h; rcases List.mem_singleton.1 h with rfl; exact nvB _) | (intro row h; cases h; done) | (simp [nvRow, nvD, nvP]; done))) ?_
      simp only [nilS, errno, bool, am, simprocAttr, tys]
      refine ACall.of (cSZ) [] [] rfl (by simp) (by simp) (by simp) (by repeat' (first | exact trivial | exact .inl rfl | exact .inr rfl | exact .inr ⟨rfl, rfl, rfl, by simp; done⟩ | exact .inr ⟨rfl, by simp; done⟩ | exact .inr ⟨rfl, rfl, by simp; done⟩ | apply And.intro)) (by repeat' (first | exact trivial | rfl | exact (tkC_ren.1 _ _).symm | (simp; done) | apply And.intro)) (by first | exact .inl rfl | (refine .inr ⟨trivial, ?_⟩; first | (intro row h; rcases List.mem_singleton.1 h with rfl; exact nvB _) | (intro row h; cases h; done) | (simp; done)) | (refine .inr ⟨by simp [nvP, nvP.nvPs, nvD, nilS, errno], ?_⟩; first | (intro row h; rcases List.mem_singleton.1 h with rfl; exact nvB _) | (intro row h; cases h; done) | (simp [nvRow, nvD, nvP]; done))) ?_
      simp only [nilS, errno, bool, FinR, evRes, evRVs, evRV, am, simprocAttr, tys]
      exact ⟨_, [], [], rfl, Ent.plain rfl rfl rfl trivial rfl, rfl, rfl⟩
    · rw [hk] at c1
      obtain ⟨g1, g2, g3⟩ := takeN_some hk
      have c2 := notePut y g2 g1
      rw [← g3] at c2
      simp only [takeNR, encN] at c1 c2
      refine ACall.of (c1) [] [] rfl (by simp) (by simp) (by simp) (by repeat' (first | exact trivial | exact .inl rfl | exact .inr rfl | exact .inr ⟨rfl, rfl, rfl, by simp; done⟩ | exact .inr ⟨rfl, by simp; done⟩ | exact .inr ⟨rfl, rfl, by simp; done⟩ | apply And.intro)) (by repeat' (first | exact trivial | rfl | exact (tkC_ren.1 _ _).symm | (simp; done) | apply And.intro)) (by first | exact .inl rfl | (refine .inr ⟨trivial, ?_⟩; first | (intro row h; rcases List.mem_singleton.1 h with rfl; exact nvB _) | (intro row h; cases h; done) | (simp; done)) | (refine .inr ⟨by simp [nvP, nvP.nvPs, nvD, nilS, errno], ?_⟩; first | (intro row h; rcases List.mem_singleton.1 h with rfl; exact nvB _) | (intro row h; cases h; done) | (simp [nvRow, nvD, nvP]; done))) ?_
      simp only [errno, am, simprocAttr, tys]
      refine ACall.of (c2) [] [] rfl (by simp) (by simp) (by simp) (by repeat' (first | exact trivial | exact .inl rfl | exact .inr rfl | exact .inr ⟨rfl, rfl, rfl, by simp; done⟩ | exact .inr ⟨rfl, by simp; done⟩ | exact .inr ⟨rfl, rfl, by simp; done⟩ | apply And.intro)) (by repeat' (first | exact trivial | rfl | exact (tkC_ren.1 _ _).symm | (simp; done) | apply And.intro)) (by first | exact .inl rfl | (refine .inr ⟨trivial, ?_⟩; first | (intro row h; rcases List.mem_singleton.1 h with rfl; exact nvB _) | (intro row h; cases h; done) | (simp; done)) | (refine .inr ⟨by simp [nvP, nvP.nvPs, nvD, nilS, errno], ?_⟩; first | (intro row h; rcases List.mem_singleton.1 h with rfl; exact nvB _) | (intro row h; cases h; done) | (simp [nvRow, nvD, nvP]; done))) ?_
      simp only [errno, bool, strOf_encB, bl_toList, beq_self_eq_true, FinR, evRes, evRVs, evRV, am, simprocAttr, tys]
      exact ⟨_, [], [], rfl, Ent.plain rfl rfl rfl trivial rfl, rfl, rfl⟩
  · rw [hr] at cR
    have cT := cT hr
    have cP := cP hr
    generalize sealed (bodyN A) = w at *
    refine ACall.of (cP) [] [] rfl (by simp) (by simp) (by simp) (by repeat' (first | exact trivial | exact .inl rfl | exact .inr rfl | exact .inr ⟨rfl, rfl, rfl, by simp; done⟩ | exact .inr ⟨rfl, by simp; done⟩ | exact .inr ⟨rfl, rfl, by simp; done⟩ | apply And.intro)) (by repeat' (first | exact trivial | rfl | exact (tkC_ren.1 _ _).symm | (simp; done) | apply And.intro)) (by first | exact .inl rfl | (refine .inr ⟨trivial, ?_⟩; first | (intro row h; rcases List.mem_singleton.1 h with rfl; exact nvB _) | (intro row h; cases h; done) | (simp; done)) | (refine .inr ⟨by simp [nvP, nvP.nvPs, nvD, nilS, errno], ?_⟩; first | (intro row h; rcases List.mem_singleton.1 h with rfl; exact nvB _) | (intro row h; cases h; done) | (simp [nvRow, nvD, nvP]; done))) ?_
    simp only [errno, am, simprocAttr, tys]
    refine ACall.frz [1] ?_
    simp only [am, simprocAttr, tys]
    refine ACall.of (cT) [] [] rfl (by simp) (by simp) (by simp) (by repeat' (first | exact trivial | exact .inl rfl | exact .inr rfl | exact .inr ⟨rfl, rfl, rfl, by simp; done⟩ | exact .inr ⟨rfl, by simp; done⟩ | exact .inr ⟨rfl, rfl, by simp; done⟩ | apply And.intro)) (by repeat' (first | exact trivial | rfl | exact (tkC_ren.1 _ _).symm | (simp; done) | apply And.intro)) (by first | exact .inl rfl | (refine .inr ⟨trivial, ?_⟩; first | (intro row h; rcases List.mem_singleton.1 h with rfl; exact nvB _) | (intro row h; cases h; done) | (simp; done)) | (refine .inr ⟨by simp [nvP, nvP.nvPs, nvD, nilS, errno], ?_⟩; first | (intro row h; rcases List.mem_singleton.1 h with rfl; exact nvB _) | (intro row h; cases h; done) | (simp [nvRow, nvD, nvP]; done))) ?_
    simp only [errno, am, simprocAttr, tys]
    refine ACallD.of (fa) (by kernel_rfl) [] [] rfl (by simp) (by simp) (by simp) (by simp) (by repeat' (first | exact trivial | exact .inl rfl | exact .inr rfl | exact .inr ⟨rfl, rfl, rfl, by simp; done⟩ | exact .inr ⟨rfl, by simp; done⟩ | exact .inr ⟨rfl, rfl, by simp; done⟩ | apply And.intro)) (by repeat' (first | exact trivial | rfl | exact (tkC_ren.1 _ _).symm | (simp; done) | apply And.intro)) (by first | exact .inl rfl | (refine .inr ⟨trivial, ?_⟩; first | (intro row h; rcases List.mem_singleton.1 h with rfl; exact nvB _) | (intro row h; cases h; done) | (simp; done)) | (refine .inr ⟨by simp [nvP, nvP.nvPs, nvD, nilS, errno], ?_⟩; first | (intro row h; rcases List.mem_singleton.1 h with rfl; exact nvB _) | (intro row h; cases h; done) | (simp [nvRow, nvD, nvP]; done))) rfl rfl rfl rfl ?_
    simp only [am, simprocAttr, tys]
    refine ACallD.of (cR) (by kernel_rfl) [] [] rfl (by simp) (by simp) (by simp) (by simp) (by repeat' (first | exact trivial | exact .inl rfl | exact .inr rfl | exact .inr ⟨rfl, rfl, rfl, by simp; done⟩ | exact .inr ⟨rfl, by simp; done⟩ | exact .inr ⟨rfl, rfl, by simp; done⟩ | apply And.intro)) (by repeat' (first | exact trivial | rfl | exact (tkC_ren.1 _ _).symm | (simp; done) | apply And.intro)) (by first | exact .inl rfl | (refine .inr ⟨trivial, ?_⟩; first | (intro row h; rcases List.mem_singleton.1 h with rfl; exact nvB _) | (intro row h; cases h; done) | (simp; done)) | (refine .inr ⟨by simp [nvP, nvP.nvPs, nvD, nilS, errno], ?_⟩; first | (intro row h; rcases List.mem_singleton.1 h with rfl; exact nvB _) | (intro row h; cases h; done) | (simp [nvRow, nvD, nvP]; done))) rfl rfl rfl rfl ?_
    simp only [bool, errno, am, simprocAttr, tys]
    refine ACallD.of (fa) (by kernel_rfl) [] [] rfl (by simp) (by simp) (by simp) (by simp) (by repeat' (first | exact trivial | exact .inl rfl | exact .inr rfl | exact .inr ⟨rfl, rfl, rfl, by simp; done⟩ | exact .inr ⟨rfl, by simp; done⟩ | exact .inr ⟨rfl, rfl, by simp; done⟩ | apply And.intro)) (by repeat' (first | exact trivial | rfl | exact (tkC_ren.1 _ _).symm | (simp; done) | apply And.intro)) (by first | exact .inl rfl | (refine .inr ⟨trivial, ?_⟩; first | (intro row h; rcases List.mem_singleton.1 h with rfl; exact nvB _) | (intro row h; cases h; done) | (simp; done)) | (refine .inr ⟨by simp [nvP, nvP.nvPs, nvD, nilS, errno], ?_⟩; first | (intro row h; rcases List.mem_singleton.1 h with rfl; exact nvB _) | (intro row h; cases h; done) | (simp [nvRow, nvD, nvP]; done))) rfl rfl rfl rfl ?_
    simp only [am, simprocAttr, tys]
    refine ACallD.of (cS) (by kernel_rfl) [] [] rfl (by simp) (by simp) (by simp) (by simp) (by repeat' (first | exact trivial | exact .inl rfl | exact .inr rfl | exact .inr ⟨rfl, rfl, rfl, by simp; done⟩ | exact .inr ⟨rfl, by simp; done⟩ | exact .inr ⟨rfl, rfl, by simp; done⟩ | apply And.intro)) (by repeat' (first | exact trivial | rfl | exact (tkC_ren.1 _ _).symm | (simp; done) | apply And.intro)) (by first | exact .inl rfl | (refine .inr ⟨trivial, ?_⟩; first | (intro row h; rcases List.mem_singleton.1 h with rfl; exact nvB _) | (intro row h; cases h; done) | (simp; done)) | (refine .inr ⟨by simp [nvP, nvP.nvPs, nvD, nilS, errno], ?_⟩; first | (intro row h; rcases List.mem_singleton.1 h with rfl; exact nvB _) | (intro row h; cases h; done) | (simp [nvRow, nvD, nvP]; done))) rfl rfl rfl rfl ?_
    simp only [bool, errno, am, simprocAttr, tys]
    refine ⟨by kernel_rfl, ?_⟩
    simp only [byts, bool, min3000, take_min', Int.natCast_nonneg, Int.toNat_natCast, ← List.map_take, List.drop_zero, am, simprocAttr, tys]
    refine ⟨by omega, ?_⟩
    generalize b.take 3000 = x at *
    have c1 := noteTake x (by omega)
    rcases hk : takeN x with _ | y
    · rw [hk] at c1
      simp only [takeNR, encN, zeroN, List.map_nil] at c1
      refine ACall.of (c1) [] [] rfl (by simp) (by simp) (by simp) (by repeat' (first | exact trivial | exact .inl rfl | exact .inr rfl | exact .inr ⟨rfl, rfl, rfl, by simp; done⟩ | exact .inr ⟨rfl, by simp; done⟩ | exact .inr ⟨rfl, rfl, by simp; done⟩ | apply And.intro)) (by repeat' (first | exact trivial | rfl | exact (tkC_ren.1 _ _).symm | (simp; done) | apply And.intro)) (by first | exact .inl rfl | (refine .inr ⟨trivial, ?_⟩; first | (intro row h; rcases List.mem_singleton.1 h with rfl; exact nvB _) | (intro row h; cases h; done) | (simp; done)) | (refine .inr ⟨by simp [nvP, nvP.nvPs, nvD, nilS, errno], ?_⟩; first | (intro row h; rcases List.mem_singleton.1 h with rfl; exact nvB _) | (intro row h; cases h; done) | (simp [nvRow, nvD, nvP]; done))) ?_
      simp only [errno, am, simprocAttr, tys]
      refine ACall.of (cZ) [] [] rfl (by simp) (by simp) (by simp) (by repeat' (first | exact trivial | exact .inl rfl | exact .inr rfl | exact .inr ⟨rfl, rfl, rfl, by simp; done⟩ | exact .inr ⟨rfl, by simp; done⟩ | exact .inr ⟨rfl, rfl, by simp; done⟩ | apply And.intro)) (by repeat' (first | exact trivial | rfl | exact (tkC_ren.1 _ _).symm | (simp; done) | apply And.intro)) (by first | exact .inl rfl | (refine .inr ⟨trivial, ?_⟩; first | (intro row h; rcases List.mem_singleton.1 h with rfl; exact nvB _) | (intro row h; cases h; done) | (simp; done)) | (refine .inr ⟨by simp [nvP, nvP.nvPs, nvD, nilS, errno], ?_⟩; first | (intro row h; rcases List.mem_singleton.1 h with rfl; exact nvB _) | (intro row h; cases h; done) | (simp [nvRow, nvD, nvP]; done))) ?_
      simp only [nilS, errno, bool, am, simprocAttr, tys]
      refine ACall.of (cSZ) [] [] rfl (by simp) (by simp) (by simp) (by repeat' (first | exact trivial | exact .inl rfl | exact .inr rfl | exact .inr ⟨rfl, rfl, rfl, by simp; done⟩ | exact .inr ⟨rfl, by simp; done⟩ | exact .inr ⟨rfl, rfl, by simp; done⟩ | apply And.intro)) (by repeat' (first | exact trivial | rfl | exact (tkC_ren.1 _ _).symm | (simp; done) | apply And.intro)) (by first | exact .inl rfl | (refine .inr ⟨trivial, ?_⟩; first | (intro row h; rcases List.mem_singleton.1 h with rfl; exact nvB _) | (intro row h; cases h; done) | (simp; done)) | (refine .inr ⟨by simp [nvP, nvP.nvPs, nvD, nilS, errno], ?_⟩; first | (intro row h; rcases List.mem_singleton.1 h with rfl; exact nvB _) | (intro row h; cases h; done) | (simp [nvRow, nvD, nvP]; done))) ?_
      simp only [nilS, errno, bool, FinR, evRes, evRVs, evRV, am, simprocAttr, tys]
      exact ⟨_, [], [], rfl, Ent.plain rfl rfl rfl trivial rfl, rfl, rfl⟩
    · rw [hk] at c1
      obtain ⟨g1, g2, g3⟩ := takeN_some hk
      have c2 := notePut y g2 g1
      rw [← g3] at c2
      simp only [takeNR, encN] at c1 c2
      refine ACall.of (c1) [] [] rfl (by simp) (by simp) (by simp) (by repeat' (first | exact trivial | exact .inl rfl | exact .inr rfl | exact .inr ⟨rfl, rfl, rfl, by simp; done⟩ | exact .inr ⟨rfl, by simp; done⟩ | exact .inr ⟨rfl, rfl, by simp; done⟩ | apply And.intro)) (by repeat' (first | exact trivial | rfl | exact (tkC_ren.1 _ _).symm | (simp; done) | apply And.intro)) (by first | exact .inl rfl | (refine .inr ⟨trivial, ?_⟩; first | (intro row h; rcases List.mem_singleton.1 h with rfl; exact nvB _) | (intro row h; cases h; done) | (simp; done)) | (refine .inr ⟨by simp [nvP, nvP.nvPs, nvD, nilS, errno], ?_⟩; first | (intro row h; rcases List.mem_singleton.1 h with rfl; exact nvB _) | (intro row h; cases h; done) | (simp [nvRow, nvD, nvP]; done))) ?_
      simp only [errno, am, simprocAttr, tys]
      refine ACall.of (c2) [] [] rfl (by simp) (by simp) (by simp) (by repeat' (first | exact trivial | exact .inl rfl | exact .inr rfl | exact .inr ⟨rfl, rfl, rfl, by simp; done⟩ | exact .inr ⟨rfl, by simp; done⟩ | exact .inr ⟨rfl, rfl, by simp; done⟩ | apply And.intro)) (by repeat' (first | exact trivial | rfl | exact (tkC_ren.1 _ _).symm | (simp; done) | apply And.intro)) (by first | exact .inl rfl | (refine .inr ⟨trivial, ?_⟩; first | (intro row h; rcases List.mem_singleton.1 h with rfl; exact nvB _) | (intro row h; cases h; done) | (simp; done)) | (refine .inr ⟨by simp [nvP, nvP.nvPs, nvD, nilS, errno], ?_⟩; first | (intro row h; rcases List.mem_singleton.1 h with rfl; exact nvB _) | (intro row h; cases h; done) | (simp [nvRow, nvD, nvP]; done))) ?_
      simp only [errno, bool, strOf_encB, bl_toList, beq_self_eq_true, FinR, evRes, evRVs, evRV, am, simprocAttr, tys]
      exact ⟨_, [], [], rfl, Ent.plain rfl rfl rfl trivial rfl, rfl, rfl⟩

theorem lawNoteBack' (a : NoteD.El) (b : List UInt8) (ha : NoteD.ok a) (hb : b.length ≤ 9223372036854775807) :
    AFun Try.prog 8 [argP NoteD a, byts b] [] (bool true) [] := by
  obtain ⟨x, ex, hx⟩ := argN a ha
  rw [ex]
  exact lawNoteBack x b hx hb
end Go.Proofs.Ytflpphgccjlkjaa
