/- Proved here: what functions of the program compute, and plain laws. No condition. -/
import Derived.Test.YtkadildabhkocaaOpLaw
import Derived.Test.YtkadildabhkocaaRTake5
import Derived.Test.YtkadildabhkocaaRTake7
set_option linter.unusedSimpArgs false
set_option linter.unusedVariables false
namespace Go.Proofs.Ytkadildabhkocaa
open Go Go.AM

theorem argO14 {f : Nat} {A B : List DV} {r : PV} {out : List Row} (h : AFun Try.prog f [.d (.agg B)] [] r out) (hc : cle A B) : AFun Try.prog f [.d (.agg A)] [] r out := by
  intro Bs β X w vs hk h0 hm ha
  refine h Bs β X w vs hk h0 hm ?_
  unfold repPs at *
  obtain ⟨u, us, e, h1, h2⟩ := ha
  refine ⟨u, us, e, ?_, h2⟩
  unfold repP rep at *
  obtain ⟨vs', e', h3⟩ := h1
  exact ⟨vs', e', reps_cle hc h3⟩
theorem numT_no {b : List UInt8} (h : takeNum b = none) : numT (some b) = (0, none) := by simp only [numT, h]
theorem numT_sm {b : List UInt8} {u : Nat} {r : List UInt8} (h : takeNum b = some (u, r)) : numT (some b) = (u, some r) := by simp only [numT, h]
theorem numT_bad : numT none = (0, none) := rfl

theorem refOTakeE : AFun Try.prog 18 [byts []] [] failO [] := by
  refine AFun.of_walk hP Try.func18 rfl rfl rfl (by simp) rfl ?_
  simp only [Try.f18, byts, nilS, errno, FinR, evRes, evRVs, evRV, am, simprocAttr, tys]
  exact ⟨_, [], [], rfl, Ent.plain rfl rfl rfl trivial rfl, rfl, rfl⟩

set_option maxRecDepth 8000 in
set_option maxHeartbeats 4000000 in
theorem refOTakeC (c : UInt8) (r : List UInt8) (hl : r.length ≤ 10000000) : AFun Try.prog 18 [byts (c :: r)] [] (takeOR (takeO (c :: r))) [] := by
  have hfail : AFun Try.prog 18 [byts (c :: r)] [] failO [] → AFun Try.prog 18 [byts (c :: r)] [] (takeOR none) [] := fun h => AFun.cle h ⟨.inl rfl, .inr ⟨rfl, 2, rfl⟩, .inl rfl, .inl rfl, .inr ⟨rfl, 3, rfl⟩, trivial⟩
  have hI : ((0 : Int) < (((c :: r : List UInt8).length : Nat) : Int)) := by rw [List.length_cons]; omega
  have hI1 : ((1 : Int) ≤ (((c :: r : List UInt8).length : Nat) : Int)) := by rw [List.length_cons]; omega
  have hE : ((((c :: r : List UInt8).length : Nat) : Int) == 0) = false := by rw [beq_eq_false_iff_ne, List.length_cons]; omega
  have h0 : (c :: r : List UInt8)[0]? = some c := rfl
  have hd : (c :: r : List UInt8).drop 1 = r := rfl
  have e1 : ((c.toNat : Int) == 1) = decide (c = 1) := u8eq c 1 (by omega)
  have e3 : ((c.toNat : Int) == 3) = decide (c = 3) := u8eq c 3 (by omega)
  have e4 : ((c.toNat : Int) == 4) = decide (c = 4) := u8eq c 4 (by omega)
  have hfail2 : takeK c r = none → AFun Try.prog 18 [byts (c :: r)] [] failO [] → AFun Try.prog 18 [byts (c :: r)] [] (takeOR (takeO (c :: r))) [] := fun h w => by
    have e : takeO (c :: r) = none := h
    rw [e]; exact hfail w
  have hok : ∀ (o : OpT) (rest : List UInt8) (A : List DV), takeK c r = some (o, rest) → cle A (encO o) → AFun Try.prog 18 [byts (c :: r)] [] (.tup [.d (.agg A), byts rest, errno 0]) [] → AFun Try.prog 18 [byts (c :: r)] [] (takeOR (takeO (c :: r))) [] := fun o rest A h hc w => by
    have e : takeO (c :: r) = some (o, rest) := h
    rw [e]; exact AFun.cle w hc
  by_cases k1 : c = 1
  · have d1 : decide (c = 1) = true := decide_eq_true k1
    have cT := refLTake r (by omega)
    rcases hk : takeLb r with _ | ⟨l, r1⟩
    · refine hfail2 (by unfold takeK; rw [if_pos k1, hk]) ?_
      rw [hk] at cT
      generalize (c :: r : List UInt8) = bb at *
      refine AFun.of_walk hP Try.func18 rfl rfl rfl (by simp) rfl ?_
      simp only [Try.f18, byts, hE, hI, hI1, h0, encB, Int.toNat_zero, ← List.map_drop, ← List.map_take, List.take_length, hd, Int.toNat_one, Int.toNat_natCast, List.nil_append, e1, d1, am, simprocAttr, tys]
      refine ⟨Int.le_refl _, by simp; omega, ?_⟩
      refine ACall.frz [3] ?_
      try simp only [am, simprocAttr, tys]
      refine ACall.of (cT) [] [] rfl (by simp) (by simp) (by simp) (by repeat' (first | exact trivial | exact .inl rfl | exact .inr rfl | exact .inr ⟨rfl, by simp⟩ | exact .inr ⟨rfl, rfl, by simp⟩ | apply And.intro)) (by repeat' (first | exact trivial | rfl | exact (tkC_ren.1 _ _).symm | (simp; done) | apply And.intro)) (by first | exact .inl rfl | (refine .inr ⟨trivial, ?_⟩; first | (intro row h; rcases List.mem_singleton.1 h with rfl; exact nvB _) | (intro row h; cases h; done) | (simp; done)) | (refine .inr ⟨by simp [nvP, nvP.nvPs, nvD, nilS, errno], ?_⟩; first | (intro row h; rcases List.mem_singleton.1 h with rfl; exact nvB _) | (intro row h; cases h; done) | (simp [nvRow, nvD, nvP]; done))) ?_
      simp only [takeLR, nilS, errno, FinR, evRes, evRVs, evRV, am, simprocAttr, tys]
      exact ⟨_, [], [], rfl, Ent.plain rfl rfl rfl trivial rfl, rfl, rfl⟩
    · rw [hk] at cT
      have hrl : r1.length ≤ r.length := by rw [(takeLb_some hk).2]; simp
      rcases hn1 : takeNum r1 with _ | ⟨u, r2⟩
      · refine hfail2 (by unfold takeK; rw [if_pos k1, hk]; simp only [hn1]) ?_
        generalize (c :: r : List UInt8) = bb at *
        refine AFun.of_walk hP Try.func18 rfl rfl rfl (by simp) rfl ?_
        simp only [Try.f18, byts, hE, hI, hI1, h0, encB, Int.toNat_zero, ← List.map_drop, ← List.map_take, List.take_length, hd, Int.toNat_one, Int.toNat_natCast, List.nil_append, e1, d1, am, simprocAttr, tys]
        refine ⟨Int.le_refl _, by simp; omega, ?_⟩
        refine ACall.frz [3] ?_
        try simp only [am, simprocAttr, tys]
        refine ACall.of (cT) [] [] rfl (by simp) (by simp) (by simp) (by repeat' (first | exact trivial | exact .inl rfl | exact .inr rfl | exact .inr ⟨rfl, by simp⟩ | exact .inr ⟨rfl, rfl, by simp⟩ | apply And.intro)) (by repeat' (first | exact trivial | rfl | exact (tkC_ren.1 _ _).symm | (simp; done) | apply And.intro)) (by first | exact .inl rfl | (refine .inr ⟨trivial, ?_⟩; first | (intro row h; rcases List.mem_singleton.1 h with rfl; exact nvB _) | (intro row h; cases h; done) | (simp; done)) | (refine .inr ⟨by simp [nvP, nvP.nvPs, nvD, nilS, errno], ?_⟩; first | (intro row h; rcases List.mem_singleton.1 h with rfl; exact nvB _) | (intro row h; cases h; done) | (simp [nvRow, nvD, nvP]; done))) ?_
        simp only [takeLR, byts, errno, am, simprocAttr, tys]
        refine ACall.of (refInt (some r1) (by intro bs h; cases h <;> omega)) [4] [] rfl (by simp) (by simp) (by simp) (by repeat' (first | exact trivial | exact .inl rfl | exact .inr rfl | exact .inr ⟨rfl, by simp⟩ | exact .inr ⟨rfl, rfl, by simp⟩ | apply And.intro)) (by repeat' (first | exact trivial | rfl | exact (tkC_ren.1 _ _).symm | (simp; done) | apply And.intro)) (by first | exact .inl rfl | (refine .inr ⟨trivial, ?_⟩; first | (intro row h; rcases List.mem_singleton.1 h with rfl; exact nvB _) | (intro row h; cases h; done) | (simp; done)) | (refine .inr ⟨by simp [nvP, nvP.nvPs, nvD, nilS, errno], ?_⟩; first | (intro row h; rcases List.mem_singleton.1 h with rfl; exact nvB _) | (intro row h; cases h; done) | (simp [nvRow, nvD, nvP]; done))) ?_
        simp only [numT_no hn1, int, tkC_ren, am, simprocAttr, tys]
        refine ACall.of (refInt (none) (by intro bs h; cases h <;> omega)) [4] [] rfl (by simp) (by simp) (by simp) (by repeat' (first | exact trivial | exact .inl rfl | exact .inr rfl | exact .inr ⟨rfl, by simp⟩ | exact .inr ⟨rfl, rfl, by simp⟩ | apply And.intro)) (by repeat' (first | exact trivial | rfl | exact (tkC_ren.1 _ _).symm | (simp; done) | apply And.intro)) (by first | exact .inl rfl | (refine .inr ⟨trivial, ?_⟩; first | (intro row h; rcases List.mem_singleton.1 h with rfl; exact nvB _) | (intro row h; cases h; done) | (simp; done)) | (refine .inr ⟨by simp [nvP, nvP.nvPs, nvD, nilS, errno], ?_⟩; first | (intro row h; rcases List.mem_singleton.1 h with rfl; exact nvB _) | (intro row h; cases h; done) | (simp [nvRow, nvD, nvP]; done))) ?_
        simp only [numT_bad, int, tkC_ren, am, simprocAttr, tys]
        simp only [tkC, bool, nilS, errno, FinR, evRes, evRVs, evRV, am, simprocAttr, tys]
        exact ⟨_, [], [], rfl, Ent.plain rfl rfl rfl trivial rfl, rfl, rfl⟩
      · have hr2 : r2.length ≤ r1.length := by rw [(takeNum_some hn1).2]; simp
        rcases hn2 : takeNum r2 with _ | ⟨u2, r3⟩
        · refine hfail2 (by unfold takeK; rw [if_pos k1, hk]; simp only [hn1, hn2]) ?_
          generalize (c :: r : List UInt8) = bb at *
          refine AFun.of_walk hP Try.func18 rfl rfl rfl (by simp) rfl ?_
          simp only [Try.f18, byts, hE, hI, hI1, h0, encB, Int.toNat_zero, ← List.map_drop, ← List.map_take, List.take_length, hd, Int.toNat_one, Int.toNat_natCast, List.nil_append, e1, d1, am, simprocAttr, tys]
          refine ⟨Int.le_refl _, by simp; omega, ?_⟩
          refine ACall.frz [3] ?_
          try simp only [am, simprocAttr, tys]
          refine ACall.of (cT) [] [] rfl (by simp) (by simp) (by simp) (by repeat' (first | exact trivial | exact .inl rfl | exact .inr rfl | exact .inr ⟨rfl, by simp⟩ | exact .inr ⟨rfl, rfl, by simp⟩ | apply And.intro)) (by repeat' (first | exact trivial | rfl | exact (tkC_ren.1 _ _).symm | (simp; done) | apply And.intro)) (by first | exact .inl rfl | (refine .inr ⟨trivial, ?_⟩; first | (intro row h; rcases List.mem_singleton.1 h with rfl; exact nvB _) | (intro row h; cases h; done) | (simp; done)) | (refine .inr ⟨by simp [nvP, nvP.nvPs, nvD, nilS, errno], ?_⟩; first | (intro row h; rcases List.mem_singleton.1 h with rfl; exact nvB _) | (intro row h; cases h; done) | (simp [nvRow, nvD, nvP]; done))) ?_
          simp only [takeLR, byts, errno, am, simprocAttr, tys]
          refine ACall.of (refInt (some r1) (by intro bs h; cases h <;> omega)) [4] [] rfl (by simp) (by simp) (by simp) (by repeat' (first | exact trivial | exact .inl rfl | exact .inr rfl | exact .inr ⟨rfl, by simp⟩ | exact .inr ⟨rfl, rfl, by simp⟩ | apply And.intro)) (by repeat' (first | exact trivial | rfl | exact (tkC_ren.1 _ _).symm | (simp; done) | apply And.intro)) (by first | exact .inl rfl | (refine .inr ⟨trivial, ?_⟩; first | (intro row h; rcases List.mem_singleton.1 h with rfl; exact nvB _) | (intro row h; cases h; done) | (simp; done)) | (refine .inr ⟨by simp [nvP, nvP.nvPs, nvD, nilS, errno], ?_⟩; first | (intro row h; rcases List.mem_singleton.1 h with rfl; exact nvB _) | (intro row h; cases h; done) | (simp [nvRow, nvD, nvP]; done))) ?_
          simp only [numT_sm hn1, int, tkC_ren, am, simprocAttr, tys]
          refine ACall.of (refInt (some r2) (by intro bs h; cases h <;> omega)) [4] [] rfl (by simp) (by simp) (by simp) (by repeat' (first | exact trivial | exact .inl rfl | exact .inr rfl | exact .inr ⟨rfl, by simp⟩ | exact .inr ⟨rfl, rfl, by simp⟩ | apply And.intro)) (by repeat' (first | exact trivial | rfl | exact (tkC_ren.1 _ _).symm | (simp; done) | apply And.intro)) (by first | exact .inl rfl | (refine .inr ⟨trivial, ?_⟩; first | (intro row h; rcases List.mem_singleton.1 h with rfl; exact nvB _) | (intro row h; cases h; done) | (simp; done)) | (refine .inr ⟨by simp [nvP, nvP.nvPs, nvD, nilS, errno], ?_⟩; first | (intro row h; rcases List.mem_singleton.1 h with rfl; exact nvB _) | (intro row h; cases h; done) | (simp [nvRow, nvD, nvP]; done))) ?_
          simp only [numT_no hn2, int, tkC_ren, am, simprocAttr, tys]
          simp only [tkC, bool, nilS, errno, FinR, evRes, evRVs, evRV, am, simprocAttr, tys]
          exact ⟨_, [], [], rfl, Ent.plain rfl rfl rfl trivial rfl, rfl, rfl⟩
        · have hr3 : r3.length ≤ r2.length := by rw [(takeNum_some hn2).2]; simp
          have hro : rightO (c, l, (unfold' u, unfold' u2, ()), [], ()) = true := by unfold rightO noA; rw [if_pos k1]; simp [(takeLb_some hk).1]
          have hle : cle [.lit (.int .u8 c.toNat), .sl 2 (l.map encL), i64D (unfold' u), i64D (unfold' u2), nlD] (encO (c, l, (unfold' u, unfold' u2, ()), [], ())) := ⟨.inl rfl, .inl rfl, .inl rfl, .inl rfl, .inr ⟨rfl, 3, rfl⟩, trivial⟩
          have cR := argO14 (refORight _ (fit_of hro (unfold_I64 _ (takeNum_some hn1).1) (unfold_I64 _ (takeNum_some hn2).1)).toFit) hle
          rw [hro] at cR
          refine hok (c, l, (unfold' u, unfold' u2, ()), [], ()) r3 [.lit (.int .u8 c.toNat), .sl 2 (l.map encL), i64D (unfold' u), i64D (unfold' u2), nlD] (by unfold takeK; rw [if_pos k1, hk]; simp only [hn1, hn2]) hle ?_
          generalize (c :: r : List UInt8) = bb at *
          refine AFun.of_walk hP Try.func18 rfl rfl rfl (by simp) rfl ?_
          simp only [Try.f18, byts, hE, hI, hI1, h0, encB, Int.toNat_zero, ← List.map_drop, ← List.map_take, List.take_length, hd, Int.toNat_one, Int.toNat_natCast, List.nil_append, e1, d1, am, simprocAttr, tys]
          refine ⟨Int.le_refl _, by simp; omega, ?_⟩
          refine ACall.frz [3] ?_
          try simp only [am, simprocAttr, tys]
          refine ACall.of (cT) [] [] rfl (by simp) (by simp) (by simp) (by repeat' (first | exact trivial | exact .inl rfl | exact .inr rfl | exact .inr ⟨rfl, by simp⟩ | exact .inr ⟨rfl, rfl, by simp⟩ | apply And.intro)) (by repeat' (first | exact trivial | rfl | exact (tkC_ren.1 _ _).symm | (simp; done) | apply And.intro)) (by first | exact .inl rfl | (refine .inr ⟨trivial, ?_⟩; first | (intro row h; rcases List.mem_singleton.1 h with rfl; exact nvB _) | (intro row h; cases h; done) | (simp; done)) | (refine .inr ⟨by simp [nvP, nvP.nvPs, nvD, nilS, errno], ?_⟩; first | (intro row h; rcases List.mem_singleton.1 h with rfl; exact nvB _) | (intro row h; cases h; done) | (simp [nvRow, nvD, nvP]; done))) ?_
          simp only [takeLR, byts, errno, am, simprocAttr, tys]
          refine ACall.of (refInt (some r1) (by intro bs h; cases h <;> omega)) [4] [] rfl (by simp) (by simp) (by simp) (by repeat' (first | exact trivial | exact .inl rfl | exact .inr rfl | exact .inr ⟨rfl, by simp⟩ | exact .inr ⟨rfl, rfl, by simp⟩ | apply And.intro)) (by repeat' (first | exact trivial | rfl | exact (tkC_ren.1 _ _).symm | (simp; done) | apply And.intro)) (by first | exact .inl rfl | (refine .inr ⟨trivial, ?_⟩; first | (intro row h; rcases List.mem_singleton.1 h with rfl; exact nvB _) | (intro row h; cases h; done) | (simp; done)) | (refine .inr ⟨by simp [nvP, nvP.nvPs, nvD, nilS, errno], ?_⟩; first | (intro row h; rcases List.mem_singleton.1 h with rfl; exact nvB _) | (intro row h; cases h; done) | (simp [nvRow, nvD, nvP]; done))) ?_
          simp only [numT_sm hn1, int, tkC_ren, am, simprocAttr, tys]
          refine ACall.of (refInt (some r2) (by intro bs h; cases h <;> omega)) [4] [] rfl (by simp) (by simp) (by simp) (by repeat' (first | exact trivial | exact .inl rfl | exact .inr rfl | exact .inr ⟨rfl, by simp⟩ | exact .inr ⟨rfl, rfl, by simp⟩ | apply And.intro)) (by repeat' (first | exact trivial | rfl | exact (tkC_ren.1 _ _).symm | (simp; done) | apply And.intro)) (by first | exact .inl rfl | (refine .inr ⟨trivial, ?_⟩; first | (intro row h; rcases List.mem_singleton.1 h with rfl; exact nvB _) | (intro row h; cases h; done) | (simp; done)) | (refine .inr ⟨by simp [nvP, nvP.nvPs, nvD, nilS, errno], ?_⟩; first | (intro row h; rcases List.mem_singleton.1 h with rfl; exact nvB _) | (intro row h; cases h; done) | (simp [nvRow, nvD, nvP]; done))) ?_
          simp only [numT_sm hn2, int, tkC_ren, am, simprocAttr, tys]
          try simp only [tkC, bool, byts, am, simprocAttr, tys]
          refine ACall.of (cR) [] [] rfl (by simp) (by simp) (by simp) (by repeat' (first | exact trivial | exact .inl rfl | exact .inr rfl | exact .inr ⟨rfl, by simp⟩ | exact .inr ⟨rfl, rfl, by simp⟩ | apply And.intro)) (by repeat' (first | exact trivial | rfl | exact (tkC_ren.1 _ _).symm | (simp; done) | apply And.intro)) (by first | exact .inl rfl | (refine .inr ⟨trivial, ?_⟩; first | (intro row h; rcases List.mem_singleton.1 h with rfl; exact nvB _) | (intro row h; cases h; done) | (simp; done)) | (refine .inr ⟨by simp [nvP, nvP.nvPs, nvD, nilS, errno], ?_⟩; first | (intro row h; rcases List.mem_singleton.1 h with rfl; exact nvB _) | (intro row h; cases h; done) | (simp [nvRow, nvD, nvP]; done))) ?_
          simp only [bool, am, simprocAttr, tys]
          refine ⟨by simp; omega, ?_⟩
          simp only [List.nil_append, errno, FinR, evRes, evRVs, evRV, am, simprocAttr, tys]
          exact ⟨by kernel_rfl, ⟨_, [389], [], rfl, ⟨rfl, rfl, by simp, (fun i hi => absurd hi (Nat.not_lt_zero _)), trivial, trivial, rfl, by decide, rfl, (by first | rfl | simp [scRow, tkC_scs])⟩, rfl, rfl⟩⟩
  · have d1 : decide (c = 1) = false := decide_eq_false k1
    by_cases k3 : c = 3
    · have d3 : decide (c = 3) = true := decide_eq_true k3
      rcases hn1 : takeNum r with _ | ⟨u, r1⟩
      · refine hfail2 (by unfold takeK; rw [if_neg k1, if_pos k3]; simp only [hn1]) ?_
        generalize (c :: r : List UInt8) = bb at *
        refine AFun.of_walk hP Try.func18 rfl rfl rfl (by simp) rfl ?_
        simp only [Try.f18, byts, hE, hI, hI1, h0, encB, Int.toNat_zero, ← List.map_drop, ← List.map_take, List.take_length, hd, Int.toNat_one, Int.toNat_natCast, List.nil_append, e1, d1, e3, d3, am, simprocAttr, tys]
        refine ⟨Int.le_refl _, by simp; omega, ?_⟩
        refine ACall.frz [3] ?_
        try simp only [am, simprocAttr, tys]
        refine ACall.of (refInt (some r) (by intro bs h; cases h <;> omega)) [4] [] rfl (by simp) (by simp) (by simp) (by repeat' (first | exact trivial | exact .inl rfl | exact .inr rfl | exact .inr ⟨rfl, by simp⟩ | exact .inr ⟨rfl, rfl, by simp⟩ | apply And.intro)) (by repeat' (first | exact trivial | rfl | exact (tkC_ren.1 _ _).symm | (simp; done) | apply And.intro)) (by first | exact .inl rfl | (refine .inr ⟨trivial, ?_⟩; first | (intro row h; rcases List.mem_singleton.1 h with rfl; exact nvB _) | (intro row h; cases h; done) | (simp; done)) | (refine .inr ⟨by simp [nvP, nvP.nvPs, nvD, nilS, errno], ?_⟩; first | (intro row h; rcases List.mem_singleton.1 h with rfl; exact nvB _) | (intro row h; cases h; done) | (simp [nvRow, nvD, nvP]; done))) ?_
        simp only [numT_no hn1, int, tkC_ren, am, simprocAttr, tys]
        simp only [tkC, bool, nilS, errno, FinR, evRes, evRVs, evRV, am, simprocAttr, tys]
        exact ⟨_, [], [], rfl, Ent.plain rfl rfl rfl trivial rfl, rfl, rfl⟩
      · have hr3 : r1.length ≤ r.length := by rw [(takeNum_some hn1).2]; simp
        have hro : rightO (c, [], (unfold' u, 0, ()), [], ()) = true := by unfold rightO noA noL z2; rw [if_neg k1, if_neg (by show ¬ c = 4; rw [k3]; decide), if_pos k3]; rfl
        have hle : cle [.lit (.int .u8 c.toNat), nlD, i64D (unfold' u), i64D 0, nlD] (encO (c, [], (unfold' u, 0, ()), [], ())) := ⟨.inl rfl, .inr ⟨rfl, 2, rfl⟩, .inl rfl, .inl rfl, .inr ⟨rfl, 3, rfl⟩, trivial⟩
        have cR := argO14 (refORight _ (fit_of hro (unfold_I64 _ (takeNum_some hn1).1) i64_0).toFit) hle
        rw [hro] at cR
        refine hok (c, [], (unfold' u, 0, ()), [], ()) r1 [.lit (.int .u8 c.toNat), nlD, i64D (unfold' u), i64D 0, nlD] (by unfold takeK; rw [if_neg k1, if_pos k3]; simp only [hn1]) hle ?_
        generalize (c :: r : List UInt8) = bb at *
        refine AFun.of_walk hP Try.func18 rfl rfl rfl (by simp) rfl ?_
        simp only [Try.f18, byts, hE, hI, hI1, h0, encB, Int.toNat_zero, ← List.map_drop, ← List.map_take, List.take_length, hd, Int.toNat_one, Int.toNat_natCast, List.nil_append, e1, d1, e3, d3, am, simprocAttr, tys]
        refine ⟨Int.le_refl _, by simp; omega, ?_⟩
        refine ACall.frz [3] ?_
        try simp only [am, simprocAttr, tys]
        refine ACall.of (refInt (some r) (by intro bs h; cases h <;> omega)) [4] [] rfl (by simp) (by simp) (by simp) (by repeat' (first | exact trivial | exact .inl rfl | exact .inr rfl | exact .inr ⟨rfl, by simp⟩ | exact .inr ⟨rfl, rfl, by simp⟩ | apply And.intro)) (by repeat' (first | exact trivial | rfl | exact (tkC_ren.1 _ _).symm | (simp; done) | apply And.intro)) (by first | exact .inl rfl | (refine .inr ⟨trivial, ?_⟩; first | (intro row h; rcases List.mem_singleton.1 h with rfl; exact nvB _) | (intro row h; cases h; done) | (simp; done)) | (refine .inr ⟨by simp [nvP, nvP.nvPs, nvD, nilS, errno], ?_⟩; first | (intro row h; rcases List.mem_singleton.1 h with rfl; exact nvB _) | (intro row h; cases h; done) | (simp [nvRow, nvD, nvP]; done))) ?_
        simp only [numT_sm hn1, int, tkC_ren, am, simprocAttr, tys]
        try simp only [tkC, bool, byts, am, simprocAttr, tys]
        refine ACall.of (cR) [] [] rfl (by simp) (by simp) (by simp) (by repeat' (first | exact trivial | exact .inl rfl | exact .inr rfl | exact .inr ⟨rfl, by simp⟩ | exact .inr ⟨rfl, rfl, by simp⟩ | apply And.intro)) (by repeat' (first | exact trivial | rfl | exact (tkC_ren.1 _ _).symm | (simp; done) | apply And.intro)) (by first | exact .inl rfl | (refine .inr ⟨trivial, ?_⟩; first | (intro row h; rcases List.mem_singleton.1 h with rfl; exact nvB _) | (intro row h; cases h; done) | (simp; done)) | (refine .inr ⟨by simp [nvP, nvP.nvPs, nvD, nilS, errno], ?_⟩; first | (intro row h; rcases List.mem_singleton.1 h with rfl; exact nvB _) | (intro row h; cases h; done) | (simp [nvRow, nvD, nvP]; done))) ?_
        simp only [bool, am, simprocAttr, tys]
        refine ⟨by simp; omega, ?_⟩
        simp only [List.nil_append, errno, FinR, evRes, evRVs, evRV, am, simprocAttr, tys]
        exact ⟨by kernel_rfl, ⟨_, [389], [], rfl, ⟨rfl, rfl, by simp, (fun i hi => absurd hi (Nat.not_lt_zero _)), trivial, trivial, rfl, by decide, rfl, (by first | rfl | simp [scRow, tkC_scs])⟩, rfl, rfl⟩⟩
    · have d3 : decide (c = 3) = false := decide_eq_false k3
      by_cases k4 : c = 4
      · have d4 : decide (c = 4) = true := decide_eq_true k4
        have cT := refMTake r (by omega)
        rcases hk : takeA r with _ | ⟨l, r1⟩
        · refine hfail2 (by unfold takeK; rw [if_neg k1, if_neg k3, if_pos k4, hk]) ?_
          rw [hk] at cT
          generalize (c :: r : List UInt8) = bb at *
          refine AFun.of_walk hP Try.func18 rfl rfl rfl (by simp) rfl ?_
          simp only [Try.f18, byts, hE, hI, hI1, h0, encB, Int.toNat_zero, ← List.map_drop, ← List.map_take, List.take_length, hd, Int.toNat_one, Int.toNat_natCast, List.nil_append, e1, d1, e3, d3, e4, d4, am, simprocAttr, tys]
          refine ⟨Int.le_refl _, by simp; omega, ?_⟩
          refine ACall.frz [3] ?_
          try simp only [am, simprocAttr, tys]
          refine ACall.of (cT) [] [] rfl (by simp) (by simp) (by simp) (by repeat' (first | exact trivial | exact .inl rfl | exact .inr rfl | exact .inr ⟨rfl, by simp⟩ | exact .inr ⟨rfl, rfl, by simp⟩ | apply And.intro)) (by repeat' (first | exact trivial | rfl | exact (tkC_ren.1 _ _).symm | (simp; done) | apply And.intro)) (by first | exact .inl rfl | (refine .inr ⟨trivial, ?_⟩; first | (intro row h; rcases List.mem_singleton.1 h with rfl; exact nvB _) | (intro row h; cases h; done) | (simp; done)) | (refine .inr ⟨by simp [nvP, nvP.nvPs, nvD, nilS, errno], ?_⟩; first | (intro row h; rcases List.mem_singleton.1 h with rfl; exact nvB _) | (intro row h; cases h; done) | (simp [nvRow, nvD, nvP]; done))) ?_
          simp only [takeAR, nilS, errno, FinR, evRes, evRVs, evRV, am, simprocAttr, tys]
          exact ⟨_, [], [], rfl, Ent.plain rfl rfl rfl trivial rfl, rfl, rfl⟩
        · rw [hk] at cT
          have hr3 : r1.length ≤ r.length := by rw [(takeA_some hk).2]; simp
          have hro : rightO (c, [], (0, 0, ()), l, ()) = true := by unfold rightO noL z1 z2; rw [if_neg k1, if_pos k4]; simp [(takeA_some hk).1]
          have hle : cle [.lit (.int .u8 c.toNat), nlD, i64D 0, i64D 0, .sl 3 (l.map encA)] (encO (c, [], (0, 0, ()), l, ())) := ⟨.inl rfl, .inr ⟨rfl, 2, rfl⟩, .inl rfl, .inl rfl, .inl rfl, trivial⟩
          have cR := argO14 (refORight _ (fit_of hro i64_0 i64_0).toFit) hle
          rw [hro] at cR
          refine hok (c, [], (0, 0, ()), l, ()) r1 [.lit (.int .u8 c.toNat), nlD, i64D 0, i64D 0, .sl 3 (l.map encA)] (by unfold takeK; rw [if_neg k1, if_neg k3, if_pos k4, hk]) hle ?_
          generalize (c :: r : List UInt8) = bb at *
          refine AFun.of_walk hP Try.func18 rfl rfl rfl (by simp) rfl ?_
          simp only [Try.f18, byts, hE, hI, hI1, h0, encB, Int.toNat_zero, ← List.map_drop, ← List.map_take, List.take_length, hd, Int.toNat_one, Int.toNat_natCast, List.nil_append, e1, d1, e3, d3, e4, d4, am, simprocAttr, tys]
          refine ⟨Int.le_refl _, by simp; omega, ?_⟩
          refine ACall.frz [3] ?_
          try simp only [am, simprocAttr, tys]
          refine ACall.of (cT) [] [] rfl (by simp) (by simp) (by simp) (by repeat' (first | exact trivial | exact .inl rfl | exact .inr rfl | exact .inr ⟨rfl, by simp⟩ | exact .inr ⟨rfl, rfl, by simp⟩ | apply And.intro)) (by repeat' (first | exact trivial | rfl | exact (tkC_ren.1 _ _).symm | (simp; done) | apply And.intro)) (by first | exact .inl rfl | (refine .inr ⟨trivial, ?_⟩; first | (intro row h; rcases List.mem_singleton.1 h with rfl; exact nvB _) | (intro row h; cases h; done) | (simp; done)) | (refine .inr ⟨by simp [nvP, nvP.nvPs, nvD, nilS, errno], ?_⟩; first | (intro row h; rcases List.mem_singleton.1 h with rfl; exact nvB _) | (intro row h; cases h; done) | (simp [nvRow, nvD, nvP]; done))) ?_
          simp only [takeAR, byts, errno, am, simprocAttr, tys]
          try simp only [tkC, bool, byts, am, simprocAttr, tys]
          refine ACall.of (cR) [] [] rfl (by simp) (by simp) (by simp) (by repeat' (first | exact trivial | exact .inl rfl | exact .inr rfl | exact .inr ⟨rfl, by simp⟩ | exact .inr ⟨rfl, rfl, by simp⟩ | apply And.intro)) (by repeat' (first | exact trivial | rfl | exact (tkC_ren.1 _ _).symm | (simp; done) | apply And.intro)) (by first | exact .inl rfl | (refine .inr ⟨trivial, ?_⟩; first | (intro row h; rcases List.mem_singleton.1 h with rfl; exact nvB _) | (intro row h; cases h; done) | (simp; done)) | (refine .inr ⟨by simp [nvP, nvP.nvPs, nvD, nilS, errno], ?_⟩; first | (intro row h; rcases List.mem_singleton.1 h with rfl; exact nvB _) | (intro row h; cases h; done) | (simp [nvRow, nvD, nvP]; done))) ?_
          simp only [bool, am, simprocAttr, tys]
          refine ⟨by simp; omega, ?_⟩
          simp only [List.nil_append, errno, FinR, evRes, evRVs, evRV, am, simprocAttr, tys]
          exact ⟨by kernel_rfl, ⟨_, [389], [], rfl, ⟨rfl, rfl, by simp, (fun i hi => absurd hi (Nat.not_lt_zero _)), trivial, trivial, rfl, by decide, rfl, (by first | rfl | simp [scRow, tkC_scs])⟩, rfl, rfl⟩⟩
      · have d4 : decide (c = 4) = false := decide_eq_false k4
        have hle : cle [.lit (.int .u8 c.toNat), nlD, i64D 0, i64D 0, nlD] (encO (c, [], (0, 0, ()), [], ())) := ⟨.inl rfl, .inr ⟨rfl, 2, rfl⟩, .inl rfl, .inl rfl, .inr ⟨rfl, 3, rfl⟩, trivial⟩
        have cR := argO14 (refORight (c, [], (0, 0, ()), [], ()) ⟨by simp, by simp, by simp, by simp⟩) hle
        by_cases k2 : c = 2
        · have hro : rightO (c, [], (0, 0, ()), [], ()) = true := by unfold rightO; rw [if_neg k1, if_neg k4, if_neg k3, if_pos k2]; rfl
          rw [hro] at cR
          refine hok (c, [], (0, 0, ()), [], ()) r [.lit (.int .u8 c.toNat), nlD, i64D 0, i64D 0, nlD] (by unfold takeK; rw [if_neg k1, if_neg k3, if_neg k4, if_pos k2]) hle ?_
          generalize (c :: r : List UInt8) = bb at *
          refine AFun.of_walk hP Try.func18 rfl rfl rfl (by simp) rfl ?_
          simp only [Try.f18, byts, hE, hI, hI1, h0, encB, Int.toNat_zero, ← List.map_drop, ← List.map_take, List.take_length, hd, Int.toNat_one, Int.toNat_natCast, List.nil_append, e1, d1, e3, d3, e4, d4, am, simprocAttr, tys]
          refine ⟨Int.le_refl _, by simp; omega, ?_⟩
          refine ACall.frz [3] ?_
          try simp only [am, simprocAttr, tys]
          try simp only [tkC, bool, byts, am, simprocAttr, tys]
          refine ACall.of (cR) [] [] rfl (by simp) (by simp) (by simp) (by repeat' (first | exact trivial | exact .inl rfl | exact .inr rfl | exact .inr ⟨rfl, by simp⟩ | exact .inr ⟨rfl, rfl, by simp⟩ | apply And.intro)) (by repeat' (first | exact trivial | rfl | exact (tkC_ren.1 _ _).symm | (simp; done) | apply And.intro)) (by first | exact .inl rfl | (refine .inr ⟨trivial, ?_⟩; first | (intro row h; rcases List.mem_singleton.1 h with rfl; exact nvB _) | (intro row h; cases h; done) | (simp; done)) | (refine .inr ⟨by simp [nvP, nvP.nvPs, nvD, nilS, errno], ?_⟩; first | (intro row h; rcases List.mem_singleton.1 h with rfl; exact nvB _) | (intro row h; cases h; done) | (simp [nvRow, nvD, nvP]; done))) ?_
          simp only [bool, am, simprocAttr, tys]
          refine ⟨by simp; omega, ?_⟩
          simp only [List.nil_append, errno, FinR, evRes, evRVs, evRV, am, simprocAttr, tys]
          exact ⟨by kernel_rfl, ⟨_, [389], [], rfl, ⟨rfl, rfl, by simp, (fun i hi => absurd hi (Nat.not_lt_zero _)), trivial, trivial, rfl, by decide, rfl, (by first | rfl | simp [scRow, tkC_scs])⟩, rfl, rfl⟩⟩
        · have hro : rightO (c, [], (0, 0, ()), [], ()) = false := by unfold rightO; rw [if_neg k1, if_neg k4, if_neg k3, if_neg k2]
          rw [hro] at cR
          refine hfail2 (by unfold takeK; rw [if_neg k1, if_neg k3, if_neg k4, if_neg k2]) ?_
          generalize (c :: r : List UInt8) = bb at *
          refine AFun.of_walk hP Try.func18 rfl rfl rfl (by simp) rfl ?_
          simp only [Try.f18, byts, hE, hI, hI1, h0, encB, Int.toNat_zero, ← List.map_drop, ← List.map_take, List.take_length, hd, Int.toNat_one, Int.toNat_natCast, List.nil_append, e1, d1, e3, d3, e4, d4, am, simprocAttr, tys]
          refine ⟨Int.le_refl _, by simp; omega, ?_⟩
          refine ACall.frz [3] ?_
          try simp only [am, simprocAttr, tys]
          refine ACall.of (cR) [] [] rfl (by simp) (by simp) (by simp) (by repeat' (first | exact trivial | exact .inl rfl | exact .inr rfl | exact .inr ⟨rfl, by simp⟩ | exact .inr ⟨rfl, rfl, by simp⟩ | apply And.intro)) (by repeat' (first | exact trivial | rfl | exact (tkC_ren.1 _ _).symm | (simp; done) | apply And.intro)) (by first | exact .inl rfl | (refine .inr ⟨trivial, ?_⟩; first | (intro row h; rcases List.mem_singleton.1 h with rfl; exact nvB _) | (intro row h; cases h; done) | (simp; done)) | (refine .inr ⟨by simp [nvP, nvP.nvPs, nvD, nilS, errno], ?_⟩; first | (intro row h; rcases List.mem_singleton.1 h with rfl; exact nvB _) | (intro row h; cases h; done) | (simp [nvRow, nvD, nvP]; done))) ?_
          simp only [bool, nilS, errno, FinR, evRes, evRVs, evRV, am, simprocAttr, tys]
          exact ⟨_, [], [], rfl, Ent.plain rfl rfl rfl trivial rfl, rfl, rfl⟩

theorem refOTake (b : List UInt8) (hl : b.length ≤ 10000000) : AFun Try.prog 18 [byts b] [] (takeOR (takeO b)) [] := by
  cases b with
  | nil => exact AFun.cle refOTakeE ⟨.inl rfl, .inr ⟨rfl, 2, rfl⟩, .inl rfl, .inl rfl, .inr ⟨rfl, 3, rfl⟩, trivial⟩
  | cons c r => exact refOTakeC c r (by simp at hl; omega)
end Go.Proofs.Ytkadildabhkocaa
