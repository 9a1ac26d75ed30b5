/- Proved here: what functions of the program compute, and plain laws. No condition. -/
import Derived.Test.YtkadildabhkocaaDec14
import Derived.Test.YtkadildabhkocaaInts14
set_option linter.unusedSimpArgs false
set_option linter.unusedVariables false
namespace Go.Proofs.Ytkadildabhkocaa
open Go Go.AM

def takeInt (b : List UInt8) : Option (Int × List UInt8) := match takeNum b with | none => none | some (u, r) => some (unfold' u, r)
def takeK (c : UInt8) (r : List UInt8) : Option (OpT × List UInt8) :=
    if c = 1 then (match takeLb r with
      | none => none
      | some (l, r1) => match takeNum r1 with
        | none => none
        | some (u, r2) => match takeNum r2 with
          | none => none
          | some (u2, r3) => some ((c, l, (unfold' u, unfold' u2, ()), [], ()), r3))
    else if c = 3 then (match takeNum r with
      | none => none
      | some (u, r1) => some ((c, [], (unfold' u, 0, ()), [], ()), r1))
    else if c = 4 then (match takeA r with
      | none => none
      | some (l, r1) => some ((c, [], (0, 0, ()), l, ()), r1))
    else if c = 2 then some ((c, [], (0, 0, ()), [], ()), r)
    else none
def takeO (b : List UInt8) : Option (OpT × List UInt8) := match b with
  | [] => none
  | c :: r => takeK c r
def zeroO : OpT := (0, [], (0, 0, ()), [], ())
def takeOR : Option (OpT × List UInt8) → PV
  | none => .tup [.d (.agg (encO zeroO)), nilS, errno 6]
  | some (o, r) => .tup [.d (.agg (encO o)), byts r, errno 0]

/-- nil for a slice of none -/
def cle : List DV → List DV → Prop
  | [], [] => True
  | x :: xs, y :: ys => (x = y ∨ (x = .lit (.slice none 0 0) ∧ ∃ sz, y = .sl sz [])) ∧ cle xs ys
  | _, _ => False
theorem reps_cle {w : World} {X : Nat → Prop} : ∀ {xs ys : List DV} {vs : List Value}, cle xs ys → reps w X xs vs → reps w X ys vs
  | [], [], vs, _, h => h
  | [], _ :: _, vs, h, _ => h.elim
  | _ :: _, [], vs, h, _ => h.elim
  | x :: xs, y :: ys, vs, h, hr => by
    obtain ⟨h1, h2⟩ := h
    unfold reps at hr ⊢
    obtain ⟨u, us, e, ho, r1, r2⟩ := hr
    refine ⟨u, us, e, ho, ?_, reps_cle h2 r2⟩
    rcases h1 with rfl | ⟨rfl, sz, rfl⟩
    · exact r1
    · exact nil_rep sz w X u r1
theorem AFun.cle {f : Nat} {args : List PV} {A B : List DV} {x y : DV} (h : AFun Try.prog f args [] (.tup [.d (.agg A), .d x, .d y]) []) (hc : cle A B) : AFun Try.prog f args [] (.tup [.d (.agg B), .d x, .d y]) [] := by
  refine AFun.weaken h ?_ ?_
  · exact ⟨trivial, trivial, trivial, trivial⟩
  · intro rows β w X v h
    unfold repP at h ⊢
    obtain ⟨vs, rfl, h⟩ := h
    refine ⟨vs, rfl, ?_⟩
    unfold repPs at h ⊢
    obtain ⟨u, us, rfl, h1, h2⟩ := h
    refine ⟨u, us, rfl, ?_, h2⟩
    unfold repP rep at h1 ⊢
    obtain ⟨vs', e, h1⟩ := h1
    exact ⟨vs', e, reps_cle hc h1⟩

abbrev nlD : DV := .lit (.slice none 0 0)
abbrev i64D (n : Int) : DV := .lit (.int .i64 n)
abbrev failO : PV := .tup [.d (.agg [.lit (.int .u8 0), nlD, i64D 0, i64D 0, nlD]), nilS, errno 6]

theorem opTakeE : AFun Try.prog 17 [byts []] [] failO [] := by
  refine AFun.of_walk hP Try.func17 rfl rfl rfl (by simp) rfl ?_
  simp only [Try.f17, byts, nilS, errno, FinR, evRes, evRVs, evRV, am, simprocAttr, tys]
  exact ⟨_, [], [], rfl, Ent.plain rfl rfl rfl trivial rfl, rfl, rfl⟩

set_option maxRecDepth 8000 in
set_option maxHeartbeats 2000000 in
theorem opTakeC (c : UInt8) (r : List UInt8) (hl : r.length ≤ 10000000) : AFun Try.prog 17 [byts (c :: r)] [] (takeOR (takeO (c :: r))) [] := by
  have hfail : AFun Try.prog 17 [byts (c :: r)] [] failO [] → AFun Try.prog 17 [byts (c :: r)] [] (takeOR none) [] := fun h => AFun.cle h ⟨.inl rfl, .inr ⟨rfl, 2, rfl⟩, .inl rfl, .inl rfl, .inr ⟨rfl, 3, rfl⟩, trivial⟩
  have hI : ((0 : Int) < (((c :: r : List UInt8).length : Nat) : Int)) := by rw [List.length_cons]; omega
  have hI1 : ((1 : Int) ≤ (((c :: r : List UInt8).length : Nat) : Int)) := by rw [List.length_cons]; omega
  have hE : ((((c :: r : List UInt8).length : Nat) : Int) == 0) = false := by rw [beq_eq_false_iff_ne, List.length_cons]; omega
  have h0 : (c :: r : List UInt8)[0]? = some c := rfl
  have hd : (c :: r : List UInt8).drop 1 = r := rfl
  have e1 : ((c.toNat : Int) == 1) = decide (c = 1) := u8eq c 1 (by omega)
  have e2 : ((c.toNat : Int) == 2) = decide (c = 2) := u8eq c 2 (by omega)
  have e3 : ((c.toNat : Int) == 3) = decide (c = 3) := u8eq c 3 (by omega)
  have e4 : ((c.toNat : Int) == 4) = decide (c = 4) := u8eq c 4 (by omega)
  have hfail2 : takeK c r = none → AFun Try.prog 17 [byts (c :: r)] [] failO [] → AFun Try.prog 17 [byts (c :: r)] [] (takeOR (takeO (c :: r))) [] := fun h w => by
    have e : takeO (c :: r) = none := h
    rw [e]; exact hfail w
  have hok : ∀ (o : OpT) (rest : List UInt8) (A : List DV), takeK c r = some (o, rest) → cle A (encO o) → AFun Try.prog 17 [byts (c :: r)] [] (.tup [.d (.agg A), byts rest, errno 0]) [] → AFun Try.prog 17 [byts (c :: r)] [] (takeOR (takeO (c :: r))) [] := fun o rest A h hc w => by
    have e : takeO (c :: r) = some (o, rest) := h
    rw [e]; exact AFun.cle w hc
  by_cases k1 : c = 1
  · have d1 : decide (c = 1) = true := decide_eq_true k1
    have cT := labelTake r (by omega)
    rcases hk : takeLb r with _ | ⟨l, r1⟩
    · refine hfail2 (by unfold takeK; rw [if_pos k1, hk]) ?_
      rw [hk] at cT
      generalize (c :: r : List UInt8) = bb at *
      refine AFun.of_walk hP Try.func17 rfl rfl rfl (by simp) rfl ?_
      simp only [Try.f17, byts, hE, hI, hI1, h0, encB, Int.toNat_zero, ← List.map_drop, ← List.map_take, List.take_length, hd, Int.toNat_one, Int.toNat_natCast, am, simprocAttr, tys]
      refine ⟨Int.le_refl _, ?_⟩
      refine ACallD.of (cloneB r (by omega)) (by kernel_rfl) [] [] rfl (by simp) (by simp) (by simp) (by simp) (by repeat' (first | exact trivial | exact .inl rfl | exact .inr rfl | exact .inr ⟨rfl, by simp⟩ | exact .inr ⟨rfl, rfl, by simp⟩ | apply And.intro)) (by repeat' (first | exact trivial | rfl | exact (tkC_ren.1 _ _).symm | (simp; done) | apply And.intro)) (by first | exact .inl rfl | (refine .inr ⟨trivial, ?_⟩; first | (intro row h; rcases List.mem_singleton.1 h with rfl; exact nvB _) | (intro row h; cases h; done) | (simp; done)) | (refine .inr ⟨by simp [nvP, nvP.nvPs, nvD, nilS, errno], ?_⟩; first | (intro row h; rcases List.mem_singleton.1 h with rfl; exact nvB _) | (intro row h; cases h; done) | (simp [nvRow, nvD, nvP]; done))) rfl rfl rfl rfl ?_
      simp only [byts, e1, d1, am, simprocAttr, tys]
      refine ⟨by kernel_rfl, ?_⟩
      refine ACall.of (cT) [] [] rfl (by simp) (by simp) (by simp) (by repeat' (first | exact trivial | exact .inl rfl | exact .inr rfl | exact .inr ⟨rfl, by simp⟩ | exact .inr ⟨rfl, rfl, by simp⟩ | apply And.intro)) (by repeat' (first | exact trivial | rfl | exact (tkC_ren.1 _ _).symm | (simp; done) | apply And.intro)) (by first | exact .inl rfl | (refine .inr ⟨trivial, ?_⟩; first | (intro row h; rcases List.mem_singleton.1 h with rfl; exact nvB _) | (intro row h; cases h; done) | (simp; done)) | (refine .inr ⟨by simp [nvP, nvP.nvPs, nvD, nilS, errno], ?_⟩; first | (intro row h; rcases List.mem_singleton.1 h with rfl; exact nvB _) | (intro row h; cases h; done) | (simp [nvRow, nvD, nvP]; done))) ?_
      simp only [takeLR, nilS, errno, FinR, evRes, evRVs, evRV, am, simprocAttr, tys]
      exact ⟨_, [], [], rfl, Ent.plain rfl rfl rfl trivial rfl, rfl, rfl⟩
    · rw [hk] at cT
      have hrl : r1.length ≤ r.length := by rw [(takeLb_some hk).2]; simp
      have hr1 : r1.length ≤ 100000000 := by omega
      rcases hn1 : takeNum r1 with _ | ⟨u, r2⟩
      · refine hfail2 (by unfold takeK; rw [if_pos k1, hk]; simp only [hn1]) ?_
        by_cases hr0 : r1 = []
        · skip
          generalize (c :: r : List UInt8) = bb at *
          refine AFun.of_walk hP Try.func17 rfl rfl rfl (by simp) rfl ?_
          simp only [Try.f17, byts, hE, hI, hI1, h0, encB, Int.toNat_zero, ← List.map_drop, ← List.map_take, List.take_length, hd, Int.toNat_one, Int.toNat_natCast, am, simprocAttr, tys]
          refine ⟨Int.le_refl _, ?_⟩
          refine ACallD.of (cloneB r (by omega)) (by kernel_rfl) [] [] rfl (by simp) (by simp) (by simp) (by simp) (by repeat' (first | exact trivial | exact .inl rfl | exact .inr rfl | exact .inr ⟨rfl, by simp⟩ | exact .inr ⟨rfl, rfl, by simp⟩ | apply And.intro)) (by repeat' (first | exact trivial | rfl | exact (tkC_ren.1 _ _).symm | (simp; done) | apply And.intro)) (by first | exact .inl rfl | (refine .inr ⟨trivial, ?_⟩; first | (intro row h; rcases List.mem_singleton.1 h with rfl; exact nvB _) | (intro row h; cases h; done) | (simp; done)) | (refine .inr ⟨by simp [nvP, nvP.nvPs, nvD, nilS, errno], ?_⟩; first | (intro row h; rcases List.mem_singleton.1 h with rfl; exact nvB _) | (intro row h; cases h; done) | (simp [nvRow, nvD, nvP]; done))) rfl rfl rfl rfl ?_
          simp only [byts, e1, d1, am, simprocAttr, tys]
          refine ⟨by kernel_rfl, ?_⟩
          refine ACall.of (cT) [] [] rfl (by simp) (by simp) (by simp) (by repeat' (first | exact trivial | exact .inl rfl | exact .inr rfl | exact .inr ⟨rfl, by simp⟩ | exact .inr ⟨rfl, rfl, by simp⟩ | apply And.intro)) (by repeat' (first | exact trivial | rfl | exact (tkC_ren.1 _ _).symm | (simp; done) | apply And.intro)) (by first | exact .inl rfl | (refine .inr ⟨trivial, ?_⟩; first | (intro row h; rcases List.mem_singleton.1 h with rfl; exact nvB _) | (intro row h; cases h; done) | (simp; done)) | (refine .inr ⟨by simp [nvP, nvP.nvPs, nvD, nilS, errno], ?_⟩; first | (intro row h; rcases List.mem_singleton.1 h with rfl; exact nvB _) | (intro row h; cases h; done) | (simp [nvRow, nvD, nvP]; done))) ?_
          simp only [takeLR, errno, am, simprocAttr, tys]
          refine ACall.of (ints2E (.lit (.int .u8 c.toNat)) (.sl 2 (l.map encL)) nlD 0 0 r1 hr1 hr0) [449, 705] [] rfl (by simp) (by simp) (by simp) (by repeat' (first | exact trivial | exact .inl rfl | exact .inr rfl | exact .inr ⟨rfl, by simp⟩ | exact .inr ⟨rfl, rfl, by simp⟩ | apply And.intro)) (by repeat' (first | exact trivial | rfl | exact (tkC_ren.1 _ _).symm | (simp; done) | apply And.intro)) (by first | exact .inl rfl | (refine .inr ⟨trivial, ?_⟩; first | (intro row h; rcases List.mem_singleton.1 h with rfl; exact nvB _) | (intro row h; cases h; done) | (simp; done)) | (refine .inr ⟨by simp [nvP, nvP.nvPs, nvD, nilS, errno], ?_⟩; first | (intro row h; rcases List.mem_singleton.1 h with rfl; exact nvB _) | (intro row h; cases h; done) | (simp [nvRow, nvD, nvP]; done))) ?_
          simp only [bool, int, nlD, i64D, byts, nilS, errno, FinR, evRes, evRVs, evRV, am, simprocAttr, tys]
          exact ⟨_, [], [], rfl, Ent.plain rfl rfl rfl trivial rfl, rfl, rfl⟩
        · skip
          generalize (c :: r : List UInt8) = bb at *
          refine AFun.of_walk hP Try.func17 rfl rfl rfl (by simp) rfl ?_
          simp only [Try.f17, byts, hE, hI, hI1, h0, encB, Int.toNat_zero, ← List.map_drop, ← List.map_take, List.take_length, hd, Int.toNat_one, Int.toNat_natCast, am, simprocAttr, tys]
          refine ⟨Int.le_refl _, ?_⟩
          refine ACallD.of (cloneB r (by omega)) (by kernel_rfl) [] [] rfl (by simp) (by simp) (by simp) (by simp) (by repeat' (first | exact trivial | exact .inl rfl | exact .inr rfl | exact .inr ⟨rfl, by simp⟩ | exact .inr ⟨rfl, rfl, by simp⟩ | apply And.intro)) (by repeat' (first | exact trivial | rfl | exact (tkC_ren.1 _ _).symm | (simp; done) | apply And.intro)) (by first | exact .inl rfl | (refine .inr ⟨trivial, ?_⟩; first | (intro row h; rcases List.mem_singleton.1 h with rfl; exact nvB _) | (intro row h; cases h; done) | (simp; done)) | (refine .inr ⟨by simp [nvP, nvP.nvPs, nvD, nilS, errno], ?_⟩; first | (intro row h; rcases List.mem_singleton.1 h with rfl; exact nvB _) | (intro row h; cases h; done) | (simp [nvRow, nvD, nvP]; done))) rfl rfl rfl rfl ?_
          simp only [byts, e1, d1, am, simprocAttr, tys]
          refine ⟨by kernel_rfl, ?_⟩
          refine ACall.of (cT) [] [] rfl (by simp) (by simp) (by simp) (by repeat' (first | exact trivial | exact .inl rfl | exact .inr rfl | exact .inr ⟨rfl, by simp⟩ | exact .inr ⟨rfl, rfl, by simp⟩ | apply And.intro)) (by repeat' (first | exact trivial | rfl | exact (tkC_ren.1 _ _).symm | (simp; done) | apply And.intro)) (by first | exact .inl rfl | (refine .inr ⟨trivial, ?_⟩; first | (intro row h; rcases List.mem_singleton.1 h with rfl; exact nvB _) | (intro row h; cases h; done) | (simp; done)) | (refine .inr ⟨by simp [nvP, nvP.nvPs, nvD, nilS, errno], ?_⟩; first | (intro row h; rcases List.mem_singleton.1 h with rfl; exact nvB _) | (intro row h; cases h; done) | (simp [nvRow, nvD, nvP]; done))) ?_
          simp only [takeLR, errno, am, simprocAttr, tys]
          refine ACall.of (ints2M (.lit (.int .u8 c.toNat)) (.sl 2 (l.map encL)) nlD 0 0 r1 hr1 hr0 hn1) [449, 705] [] rfl (by simp) (by simp) (by simp) (by repeat' (first | exact trivial | exact .inl rfl | exact .inr rfl | exact .inr ⟨rfl, by simp⟩ | exact .inr ⟨rfl, rfl, by simp⟩ | apply And.intro)) (by repeat' (first | exact trivial | rfl | exact (tkC_ren.1 _ _).symm | (simp; done) | apply And.intro)) (by first | exact .inl rfl | (refine .inr ⟨trivial, ?_⟩; first | (intro row h; rcases List.mem_singleton.1 h with rfl; exact nvB _) | (intro row h; cases h; done) | (simp; done)) | (refine .inr ⟨by simp [nvP, nvP.nvPs, nvD, nilS, errno], ?_⟩; first | (intro row h; rcases List.mem_singleton.1 h with rfl; exact nvB _) | (intro row h; cases h; done) | (simp [nvRow, nvD, nvP]; done))) ?_
          simp only [bool, int, nlD, i64D, byts, nilS, errno, FinR, evRes, evRVs, evRV, am, simprocAttr, tys]
          exact ⟨_, [], [], rfl, Ent.plain rfl rfl rfl trivial rfl, rfl, rfl⟩
      · rcases hn2 : takeNum r2 with _ | ⟨u2, r3⟩
        · refine hfail2 (by unfold takeK; rw [if_pos k1, hk]; simp only [hn1, hn2]) ?_
          by_cases hr0 : r2 = []
          · rw [hr0] at hn1
            generalize (c :: r : List UInt8) = bb at *
            refine AFun.of_walk hP Try.func17 rfl rfl rfl (by simp) rfl ?_
            simp only [Try.f17, byts, hE, hI, hI1, h0, encB, Int.toNat_zero, ← List.map_drop, ← List.map_take, List.take_length, hd, Int.toNat_one, Int.toNat_natCast, am, simprocAttr, tys]
            refine ⟨Int.le_refl _, ?_⟩
            refine ACallD.of (cloneB r (by omega)) (by kernel_rfl) [] [] rfl (by simp) (by simp) (by simp) (by simp) (by repeat' (first | exact trivial | exact .inl rfl | exact .inr rfl | exact .inr ⟨rfl, by simp⟩ | exact .inr ⟨rfl, rfl, by simp⟩ | apply And.intro)) (by repeat' (first | exact trivial | rfl | exact (tkC_ren.1 _ _).symm | (simp; done) | apply And.intro)) (by first | exact .inl rfl | (refine .inr ⟨trivial, ?_⟩; first | (intro row h; rcases List.mem_singleton.1 h with rfl; exact nvB _) | (intro row h; cases h; done) | (simp; done)) | (refine .inr ⟨by simp [nvP, nvP.nvPs, nvD, nilS, errno], ?_⟩; first | (intro row h; rcases List.mem_singleton.1 h with rfl; exact nvB _) | (intro row h; cases h; done) | (simp [nvRow, nvD, nvP]; done))) rfl rfl rfl rfl ?_
            simp only [byts, e1, d1, am, simprocAttr, tys]
            refine ⟨by kernel_rfl, ?_⟩
            refine ACall.of (cT) [] [] rfl (by simp) (by simp) (by simp) (by repeat' (first | exact trivial | exact .inl rfl | exact .inr rfl | exact .inr ⟨rfl, by simp⟩ | exact .inr ⟨rfl, rfl, by simp⟩ | apply And.intro)) (by repeat' (first | exact trivial | rfl | exact (tkC_ren.1 _ _).symm | (simp; done) | apply And.intro)) (by first | exact .inl rfl | (refine .inr ⟨trivial, ?_⟩; first | (intro row h; rcases List.mem_singleton.1 h with rfl; exact nvB _) | (intro row h; cases h; done) | (simp; done)) | (refine .inr ⟨by simp [nvP, nvP.nvPs, nvD, nilS, errno], ?_⟩; first | (intro row h; rcases List.mem_singleton.1 h with rfl; exact nvB _) | (intro row h; cases h; done) | (simp [nvRow, nvD, nvP]; done))) ?_
            simp only [takeLR, errno, am, simprocAttr, tys]
            refine ACall.of (ints2F (.lit (.int .u8 c.toNat)) (.sl 2 (l.map encL)) nlD 0 0 r1 hr1 u hn1) [449, 705] [] rfl (by simp) (by simp) (by simp) (by repeat' (first | exact trivial | exact .inl rfl | exact .inr rfl | exact .inr ⟨rfl, by simp⟩ | exact .inr ⟨rfl, rfl, by simp⟩ | apply And.intro)) (by repeat' (first | exact trivial | rfl | exact (tkC_ren.1 _ _).symm | (simp; done) | apply And.intro)) (by first | exact .inl rfl | (refine .inr ⟨trivial, ?_⟩; first | (intro row h; rcases List.mem_singleton.1 h with rfl; exact nvB _) | (intro row h; cases h; done) | (simp; done)) | (refine .inr ⟨by simp [nvP, nvP.nvPs, nvD, nilS, errno], ?_⟩; first | (intro row h; rcases List.mem_singleton.1 h with rfl; exact nvB _) | (intro row h; cases h; done) | (simp [nvRow, nvD, nvP]; done))) ?_
            simp only [bool, int, nlD, i64D, byts, nilS, errno, FinR, evRes, evRVs, evRV, am, simprocAttr, tys]
            exact ⟨_, [], [], rfl, Ent.plain rfl rfl rfl trivial rfl, rfl, rfl⟩
          · skip
            generalize (c :: r : List UInt8) = bb at *
            refine AFun.of_walk hP Try.func17 rfl rfl rfl (by simp) rfl ?_
            simp only [Try.f17, byts, hE, hI, hI1, h0, encB, Int.toNat_zero, ← List.map_drop, ← List.map_take, List.take_length, hd, Int.toNat_one, Int.toNat_natCast, am, simprocAttr, tys]
            refine ⟨Int.le_refl _, ?_⟩
            refine ACallD.of (cloneB r (by omega)) (by kernel_rfl) [] [] rfl (by simp) (by simp) (by simp) (by simp) (by repeat' (first | exact trivial | exact .inl rfl | exact .inr rfl | exact .inr ⟨rfl, by simp⟩ | exact .inr ⟨rfl, rfl, by simp⟩ | apply And.intro)) (by repeat' (first | exact trivial | rfl | exact (tkC_ren.1 _ _).symm | (simp; done) | apply And.intro)) (by first | exact .inl rfl | (refine .inr ⟨trivial, ?_⟩; first | (intro row h; rcases List.mem_singleton.1 h with rfl; exact nvB _) | (intro row h; cases h; done) | (simp; done)) | (refine .inr ⟨by simp [nvP, nvP.nvPs, nvD, nilS, errno], ?_⟩; first | (intro row h; rcases List.mem_singleton.1 h with rfl; exact nvB _) | (intro row h; cases h; done) | (simp [nvRow, nvD, nvP]; done))) rfl rfl rfl rfl ?_
            simp only [byts, e1, d1, am, simprocAttr, tys]
            refine ⟨by kernel_rfl, ?_⟩
            refine ACall.of (cT) [] [] rfl (by simp) (by simp) (by simp) (by repeat' (first | exact trivial | exact .inl rfl | exact .inr rfl | exact .inr ⟨rfl, by simp⟩ | exact .inr ⟨rfl, rfl, by simp⟩ | apply And.intro)) (by repeat' (first | exact trivial | rfl | exact (tkC_ren.1 _ _).symm | (simp; done) | apply And.intro)) (by first | exact .inl rfl | (refine .inr ⟨trivial, ?_⟩; first | (intro row h; rcases List.mem_singleton.1 h with rfl; exact nvB _) | (intro row h; cases h; done) | (simp; done)) | (refine .inr ⟨by simp [nvP, nvP.nvPs, nvD, nilS, errno], ?_⟩; first | (intro row h; rcases List.mem_singleton.1 h with rfl; exact nvB _) | (intro row h; cases h; done) | (simp [nvRow, nvD, nvP]; done))) ?_
            simp only [takeLR, errno, am, simprocAttr, tys]
            refine ACall.of (ints2G (.lit (.int .u8 c.toNat)) (.sl 2 (l.map encL)) nlD 0 0 r1 hr1 u r2 hn1 hr0 hn2) [449, 705] [] rfl (by simp) (by simp) (by simp) (by repeat' (first | exact trivial | exact .inl rfl | exact .inr rfl | exact .inr ⟨rfl, by simp⟩ | exact .inr ⟨rfl, rfl, by simp⟩ | apply And.intro)) (by repeat' (first | exact trivial | rfl | exact (tkC_ren.1 _ _).symm | (simp; done) | apply And.intro)) (by first | exact .inl rfl | (refine .inr ⟨trivial, ?_⟩; first | (intro row h; rcases List.mem_singleton.1 h with rfl; exact nvB _) | (intro row h; cases h; done) | (simp; done)) | (refine .inr ⟨by simp [nvP, nvP.nvPs, nvD, nilS, errno], ?_⟩; first | (intro row h; rcases List.mem_singleton.1 h with rfl; exact nvB _) | (intro row h; cases h; done) | (simp [nvRow, nvD, nvP]; done))) ?_
            simp only [bool, int, nlD, i64D, byts, nilS, errno, FinR, evRes, evRVs, evRV, am, simprocAttr, tys]
            exact ⟨_, [], [], rfl, Ent.plain rfl rfl rfl trivial rfl, rfl, rfl⟩
        · refine hok (c, l, (unfold' u, unfold' u2, ()), [], ()) r3 [.lit (.int .u8 c.toNat), .sl 2 (l.map encL), i64D (unfold' u), i64D (unfold' u2), nlD] (by unfold takeK; rw [if_pos k1, hk]; simp only [hn1, hn2]) ⟨.inl rfl, .inl rfl, .inl rfl, .inl rfl, .inr ⟨rfl, 3, rfl⟩, trivial⟩ ?_
          generalize (c :: r : List UInt8) = bb at *
          refine AFun.of_walk hP Try.func17 rfl rfl rfl (by simp) rfl ?_
          simp only [Try.f17, byts, hE, hI, hI1, h0, encB, Int.toNat_zero, ← List.map_drop, ← List.map_take, List.take_length, hd, Int.toNat_one, Int.toNat_natCast, am, simprocAttr, tys]
          refine ⟨Int.le_refl _, ?_⟩
          refine ACallD.of (cloneB r (by omega)) (by kernel_rfl) [] [] rfl (by simp) (by simp) (by simp) (by simp) (by repeat' (first | exact trivial | exact .inl rfl | exact .inr rfl | exact .inr ⟨rfl, by simp⟩ | exact .inr ⟨rfl, rfl, by simp⟩ | apply And.intro)) (by repeat' (first | exact trivial | rfl | exact (tkC_ren.1 _ _).symm | (simp; done) | apply And.intro)) (by first | exact .inl rfl | (refine .inr ⟨trivial, ?_⟩; first | (intro row h; rcases List.mem_singleton.1 h with rfl; exact nvB _) | (intro row h; cases h; done) | (simp; done)) | (refine .inr ⟨by simp [nvP, nvP.nvPs, nvD, nilS, errno], ?_⟩; first | (intro row h; rcases List.mem_singleton.1 h with rfl; exact nvB _) | (intro row h; cases h; done) | (simp [nvRow, nvD, nvP]; done))) rfl rfl rfl rfl ?_
          simp only [byts, e1, d1, am, simprocAttr, tys]
          refine ⟨by kernel_rfl, ?_⟩
          refine ACall.of (cT) [] [] rfl (by simp) (by simp) (by simp) (by repeat' (first | exact trivial | exact .inl rfl | exact .inr rfl | exact .inr ⟨rfl, by simp⟩ | exact .inr ⟨rfl, rfl, by simp⟩ | apply And.intro)) (by repeat' (first | exact trivial | rfl | exact (tkC_ren.1 _ _).symm | (simp; done) | apply And.intro)) (by first | exact .inl rfl | (refine .inr ⟨trivial, ?_⟩; first | (intro row h; rcases List.mem_singleton.1 h with rfl; exact nvB _) | (intro row h; cases h; done) | (simp; done)) | (refine .inr ⟨by simp [nvP, nvP.nvPs, nvD, nilS, errno], ?_⟩; first | (intro row h; rcases List.mem_singleton.1 h with rfl; exact nvB _) | (intro row h; cases h; done) | (simp [nvRow, nvD, nvP]; done))) ?_
          simp only [takeLR, errno, am, simprocAttr, tys]
          refine ACall.of (ints2Y (.lit (.int .u8 c.toNat)) (.sl 2 (l.map encL)) nlD 0 0 r1 hr1 u r2 hn1 u2 r3 hn2) [449, 705] [] rfl (by simp) (by simp) (by simp) (by repeat' (first | exact trivial | exact .inl rfl | exact .inr rfl | exact .inr ⟨rfl, by simp⟩ | exact .inr ⟨rfl, rfl, by simp⟩ | apply And.intro)) (by repeat' (first | exact trivial | rfl | exact (tkC_ren.1 _ _).symm | (simp; done) | apply And.intro)) (by first | exact .inl rfl | (refine .inr ⟨trivial, ?_⟩; first | (intro row h; rcases List.mem_singleton.1 h with rfl; exact nvB _) | (intro row h; cases h; done) | (simp; done)) | (refine .inr ⟨by simp [nvP, nvP.nvPs, nvD, nilS, errno], ?_⟩; first | (intro row h; rcases List.mem_singleton.1 h with rfl; exact nvB _) | (intro row h; cases h; done) | (simp [nvRow, nvD, nvP]; done))) ?_
          simp only [bool, int, nlD, i64D, byts, nilS, errno, FinR, evRes, evRVs, evRV, am, simprocAttr, tys]
          exact ⟨_, [], [], rfl, Ent.plain rfl rfl rfl trivial rfl, rfl, rfl⟩
  · have d1 : decide (c = 1) = false := decide_eq_false k1
    by_cases k3 : c = 3
    · have d3 : decide (c = 3) = true := decide_eq_true k3
      rcases hn1 : takeNum r with _ | ⟨u, r1⟩
      · refine hfail2 (by unfold takeK; rw [if_neg k1, if_pos k3, hn1]) ?_
        by_cases hr0 : r = []
        · skip
          generalize (c :: r : List UInt8) = bb at *
          refine AFun.of_walk hP Try.func17 rfl rfl rfl (by simp) rfl ?_
          simp only [Try.f17, byts, hE, hI, hI1, h0, encB, Int.toNat_zero, ← List.map_drop, ← List.map_take, List.take_length, hd, Int.toNat_one, Int.toNat_natCast, am, simprocAttr, tys]
          refine ⟨Int.le_refl _, ?_⟩
          refine ACallD.of (cloneB r (by omega)) (by kernel_rfl) [] [] rfl (by simp) (by simp) (by simp) (by simp) (by repeat' (first | exact trivial | exact .inl rfl | exact .inr rfl | exact .inr ⟨rfl, by simp⟩ | exact .inr ⟨rfl, rfl, by simp⟩ | apply And.intro)) (by repeat' (first | exact trivial | rfl | exact (tkC_ren.1 _ _).symm | (simp; done) | apply And.intro)) (by first | exact .inl rfl | (refine .inr ⟨trivial, ?_⟩; first | (intro row h; rcases List.mem_singleton.1 h with rfl; exact nvB _) | (intro row h; cases h; done) | (simp; done)) | (refine .inr ⟨by simp [nvP, nvP.nvPs, nvD, nilS, errno], ?_⟩; first | (intro row h; rcases List.mem_singleton.1 h with rfl; exact nvB _) | (intro row h; cases h; done) | (simp [nvRow, nvD, nvP]; done))) rfl rfl rfl rfl ?_
          simp only [byts, e1, d1, e3, d3, am, simprocAttr, tys]
          refine ⟨by kernel_rfl, ?_⟩
          refine ACall.of (ints1E (.lit (.int .u8 c.toNat)) nlD nlD 0 0 r (by omega) hr0) [449, 705] [] rfl (by simp) (by simp) (by simp) (by repeat' (first | exact trivial | exact .inl rfl | exact .inr rfl | exact .inr ⟨rfl, by simp⟩ | exact .inr ⟨rfl, rfl, by simp⟩ | apply And.intro)) (by repeat' (first | exact trivial | rfl | exact (tkC_ren.1 _ _).symm | (simp; done) | apply And.intro)) (by first | exact .inl rfl | (refine .inr ⟨trivial, ?_⟩; first | (intro row h; rcases List.mem_singleton.1 h with rfl; exact nvB _) | (intro row h; cases h; done) | (simp; done)) | (refine .inr ⟨by simp [nvP, nvP.nvPs, nvD, nilS, errno], ?_⟩; first | (intro row h; rcases List.mem_singleton.1 h with rfl; exact nvB _) | (intro row h; cases h; done) | (simp [nvRow, nvD, nvP]; done))) ?_
          simp only [bool, int, nlD, i64D, byts, nilS, errno, FinR, evRes, evRVs, evRV, am, simprocAttr, tys]
          exact ⟨_, [], [], rfl, Ent.plain rfl rfl rfl trivial rfl, rfl, rfl⟩
        · skip
          generalize (c :: r : List UInt8) = bb at *
          refine AFun.of_walk hP Try.func17 rfl rfl rfl (by simp) rfl ?_
          simp only [Try.f17, byts, hE, hI, hI1, h0, encB, Int.toNat_zero, ← List.map_drop, ← List.map_take, List.take_length, hd, Int.toNat_one, Int.toNat_natCast, am, simprocAttr, tys]
          refine ⟨Int.le_refl _, ?_⟩
          refine ACallD.of (cloneB r (by omega)) (by kernel_rfl) [] [] rfl (by simp) (by simp) (by simp) (by simp) (by repeat' (first | exact trivial | exact .inl rfl | exact .inr rfl | exact .inr ⟨rfl, by simp⟩ | exact .inr ⟨rfl, rfl, by simp⟩ | apply And.intro)) (by repeat' (first | exact trivial | rfl | exact (tkC_ren.1 _ _).symm | (simp; done) | apply And.intro)) (by first | exact .inl rfl | (refine .inr ⟨trivial, ?_⟩; first | (intro row h; rcases List.mem_singleton.1 h with rfl; exact nvB _) | (intro row h; cases h; done) | (simp; done)) | (refine .inr ⟨by simp [nvP, nvP.nvPs, nvD, nilS, errno], ?_⟩; first | (intro row h; rcases List.mem_singleton.1 h with rfl; exact nvB _) | (intro row h; cases h; done) | (simp [nvRow, nvD, nvP]; done))) rfl rfl rfl rfl ?_
          simp only [byts, e1, d1, e3, d3, am, simprocAttr, tys]
          refine ⟨by kernel_rfl, ?_⟩
          refine ACall.of (ints1M (.lit (.int .u8 c.toNat)) nlD nlD 0 0 r (by omega) hr0 hn1) [449, 705] [] rfl (by simp) (by simp) (by simp) (by repeat' (first | exact trivial | exact .inl rfl | exact .inr rfl | exact .inr ⟨rfl, by simp⟩ | exact .inr ⟨rfl, rfl, by simp⟩ | apply And.intro)) (by repeat' (first | exact trivial | rfl | exact (tkC_ren.1 _ _).symm | (simp; done) | apply And.intro)) (by first | exact .inl rfl | (refine .inr ⟨trivial, ?_⟩; first | (intro row h; rcases List.mem_singleton.1 h with rfl; exact nvB _) | (intro row h; cases h; done) | (simp; done)) | (refine .inr ⟨by simp [nvP, nvP.nvPs, nvD, nilS, errno], ?_⟩; first | (intro row h; rcases List.mem_singleton.1 h with rfl; exact nvB _) | (intro row h; cases h; done) | (simp [nvRow, nvD, nvP]; done))) ?_
          simp only [bool, int, nlD, i64D, byts, nilS, errno, FinR, evRes, evRVs, evRV, am, simprocAttr, tys]
          exact ⟨_, [], [], rfl, Ent.plain rfl rfl rfl trivial rfl, rfl, rfl⟩
      · refine hok (c, [], (unfold' u, 0, ()), [], ()) r1 [.lit (.int .u8 c.toNat), nlD, i64D (unfold' u), i64D 0, nlD] (by unfold takeK; rw [if_neg k1, if_pos k3, hn1]) ⟨.inl rfl, .inr ⟨rfl, 2, rfl⟩, .inl rfl, .inl rfl, .inr ⟨rfl, 3, rfl⟩, trivial⟩ ?_
        generalize (c :: r : List UInt8) = bb at *
        refine AFun.of_walk hP Try.func17 rfl rfl rfl (by simp) rfl ?_
        simp only [Try.f17, byts, hE, hI, hI1, h0, encB, Int.toNat_zero, ← List.map_drop, ← List.map_take, List.take_length, hd, Int.toNat_one, Int.toNat_natCast, am, simprocAttr, tys]
        refine ⟨Int.le_refl _, ?_⟩
        refine ACallD.of (cloneB r (by omega)) (by kernel_rfl) [] [] rfl (by simp) (by simp) (by simp) (by simp) (by repeat' (first | exact trivial | exact .inl rfl | exact .inr rfl | exact .inr ⟨rfl, by simp⟩ | exact .inr ⟨rfl, rfl, by simp⟩ | apply And.intro)) (by repeat' (first | exact trivial | rfl | exact (tkC_ren.1 _ _).symm | (simp; done) | apply And.intro)) (by first | exact .inl rfl | (refine .inr ⟨trivial, ?_⟩; first | (intro row h; rcases List.mem_singleton.1 h with rfl; exact nvB _) | (intro row h; cases h; done) | (simp; done)) | (refine .inr ⟨by simp [nvP, nvP.nvPs, nvD, nilS, errno], ?_⟩; first | (intro row h; rcases List.mem_singleton.1 h with rfl; exact nvB _) | (intro row h; cases h; done) | (simp [nvRow, nvD, nvP]; done))) rfl rfl rfl rfl ?_
        simp only [byts, e1, d1, e3, d3, am, simprocAttr, tys]
        refine ⟨by kernel_rfl, ?_⟩
        refine ACall.of (ints1Y (.lit (.int .u8 c.toNat)) nlD nlD 0 0 r (by omega) u r1 hn1) [449, 705] [] rfl (by simp) (by simp) (by simp) (by repeat' (first | exact trivial | exact .inl rfl | exact .inr rfl | exact .inr ⟨rfl, by simp⟩ | exact .inr ⟨rfl, rfl, by simp⟩ | apply And.intro)) (by repeat' (first | exact trivial | rfl | exact (tkC_ren.1 _ _).symm | (simp; done) | apply And.intro)) (by first | exact .inl rfl | (refine .inr ⟨trivial, ?_⟩; first | (intro row h; rcases List.mem_singleton.1 h with rfl; exact nvB _) | (intro row h; cases h; done) | (simp; done)) | (refine .inr ⟨by simp [nvP, nvP.nvPs, nvD, nilS, errno], ?_⟩; first | (intro row h; rcases List.mem_singleton.1 h with rfl; exact nvB _) | (intro row h; cases h; done) | (simp [nvRow, nvD, nvP]; done))) ?_
        simp only [bool, int, nlD, i64D, byts, nilS, errno, FinR, evRes, evRVs, evRV, am, simprocAttr, tys]
        exact ⟨_, [], [], rfl, Ent.plain rfl rfl rfl trivial rfl, rfl, rfl⟩
    · have d3 : decide (c = 3) = false := decide_eq_false k3
      by_cases k4 : c = 4
      · have d4 : decide (c = 4) = true := decide_eq_true k4
        have cT := matchTake r (by omega)
        rcases hk : takeA r with _ | ⟨l, r1⟩
        · refine hfail2 (by unfold takeK; rw [if_neg k1, if_neg k3, if_pos k4, hk]) ?_
          rw [hk] at cT
          generalize (c :: r : List UInt8) = bb at *
          refine AFun.of_walk hP Try.func17 rfl rfl rfl (by simp) rfl ?_
          simp only [Try.f17, byts, hE, hI, hI1, h0, encB, Int.toNat_zero, ← List.map_drop, ← List.map_take, List.take_length, hd, Int.toNat_one, Int.toNat_natCast, am, simprocAttr, tys]
          refine ⟨Int.le_refl _, ?_⟩
          refine ACallD.of (cloneB r (by omega)) (by kernel_rfl) [] [] rfl (by simp) (by simp) (by simp) (by simp) (by repeat' (first | exact trivial | exact .inl rfl | exact .inr rfl | exact .inr ⟨rfl, by simp⟩ | exact .inr ⟨rfl, rfl, by simp⟩ | apply And.intro)) (by repeat' (first | exact trivial | rfl | exact (tkC_ren.1 _ _).symm | (simp; done) | apply And.intro)) (by first | exact .inl rfl | (refine .inr ⟨trivial, ?_⟩; first | (intro row h; rcases List.mem_singleton.1 h with rfl; exact nvB _) | (intro row h; cases h; done) | (simp; done)) | (refine .inr ⟨by simp [nvP, nvP.nvPs, nvD, nilS, errno], ?_⟩; first | (intro row h; rcases List.mem_singleton.1 h with rfl; exact nvB _) | (intro row h; cases h; done) | (simp [nvRow, nvD, nvP]; done))) rfl rfl rfl rfl ?_
          simp only [byts, e1, d1, e3, d3, e4, d4, am, simprocAttr, tys]
          refine ⟨by kernel_rfl, ?_⟩
          refine ACall.of (cT) [] [] rfl (by simp) (by simp) (by simp) (by repeat' (first | exact trivial | exact .inl rfl | exact .inr rfl | exact .inr ⟨rfl, by simp⟩ | exact .inr ⟨rfl, rfl, by simp⟩ | apply And.intro)) (by repeat' (first | exact trivial | rfl | exact (tkC_ren.1 _ _).symm | (simp; done) | apply And.intro)) (by first | exact .inl rfl | (refine .inr ⟨trivial, ?_⟩; first | (intro row h; rcases List.mem_singleton.1 h with rfl; exact nvB _) | (intro row h; cases h; done) | (simp; done)) | (refine .inr ⟨by simp [nvP, nvP.nvPs, nvD, nilS, errno], ?_⟩; first | (intro row h; rcases List.mem_singleton.1 h with rfl; exact nvB _) | (intro row h; cases h; done) | (simp [nvRow, nvD, nvP]; done))) ?_
          simp only [takeAR, nilS, errno, FinR, evRes, evRVs, evRV, am, simprocAttr, tys]
          exact ⟨_, [], [], rfl, Ent.plain rfl rfl rfl trivial rfl, rfl, rfl⟩
        · refine hok (c, [], (0, 0, ()), l, ()) r1 [.lit (.int .u8 c.toNat), nlD, i64D 0, i64D 0, .sl 3 (l.map encA)] (by unfold takeK; rw [if_neg k1, if_neg k3, if_pos k4, hk]) ⟨.inl rfl, .inr ⟨rfl, 2, rfl⟩, .inl rfl, .inl rfl, .inl rfl, trivial⟩ ?_
          rw [hk] at cT
          generalize (c :: r : List UInt8) = bb at *
          refine AFun.of_walk hP Try.func17 rfl rfl rfl (by simp) rfl ?_
          simp only [Try.f17, byts, hE, hI, hI1, h0, encB, Int.toNat_zero, ← List.map_drop, ← List.map_take, List.take_length, hd, Int.toNat_one, Int.toNat_natCast, am, simprocAttr, tys]
          refine ⟨Int.le_refl _, ?_⟩
          refine ACallD.of (cloneB r (by omega)) (by kernel_rfl) [] [] rfl (by simp) (by simp) (by simp) (by simp) (by repeat' (first | exact trivial | exact .inl rfl | exact .inr rfl | exact .inr ⟨rfl, by simp⟩ | exact .inr ⟨rfl, rfl, by simp⟩ | apply And.intro)) (by repeat' (first | exact trivial | rfl | exact (tkC_ren.1 _ _).symm | (simp; done) | apply And.intro)) (by first | exact .inl rfl | (refine .inr ⟨trivial, ?_⟩; first | (intro row h; rcases List.mem_singleton.1 h with rfl; exact nvB _) | (intro row h; cases h; done) | (simp; done)) | (refine .inr ⟨by simp [nvP, nvP.nvPs, nvD, nilS, errno], ?_⟩; first | (intro row h; rcases List.mem_singleton.1 h with rfl; exact nvB _) | (intro row h; cases h; done) | (simp [nvRow, nvD, nvP]; done))) rfl rfl rfl rfl ?_
          simp only [byts, e1, d1, e3, d3, e4, d4, am, simprocAttr, tys]
          refine ⟨by kernel_rfl, ?_⟩
          refine ACall.of (cT) [] [] rfl (by simp) (by simp) (by simp) (by repeat' (first | exact trivial | exact .inl rfl | exact .inr rfl | exact .inr ⟨rfl, by simp⟩ | exact .inr ⟨rfl, rfl, by simp⟩ | apply And.intro)) (by repeat' (first | exact trivial | rfl | exact (tkC_ren.1 _ _).symm | (simp; done) | apply And.intro)) (by first | exact .inl rfl | (refine .inr ⟨trivial, ?_⟩; first | (intro row h; rcases List.mem_singleton.1 h with rfl; exact nvB _) | (intro row h; cases h; done) | (simp; done)) | (refine .inr ⟨by simp [nvP, nvP.nvPs, nvD, nilS, errno], ?_⟩; first | (intro row h; rcases List.mem_singleton.1 h with rfl; exact nvB _) | (intro row h; cases h; done) | (simp [nvRow, nvD, nvP]; done))) ?_
          simp only [takeAR, byts, errno, FinR, evRes, evRVs, evRV, am, simprocAttr, tys]
          exact ⟨_, [], [], rfl, Ent.plain rfl rfl rfl trivial rfl, rfl, rfl⟩
      · have d4 : decide (c = 4) = false := decide_eq_false k4
        by_cases k2 : c = 2
        · have d2 : decide (c = 2) = true := decide_eq_true k2
          refine hok (c, [], (0, 0, ()), [], ()) r [.lit (.int .u8 c.toNat), nlD, i64D 0, i64D 0, nlD] (by unfold takeK; rw [if_neg k1, if_neg k3, if_neg k4, if_pos k2]) ⟨.inl rfl, .inr ⟨rfl, 2, rfl⟩, .inl rfl, .inl rfl, .inr ⟨rfl, 3, rfl⟩, trivial⟩ ?_
          generalize (c :: r : List UInt8) = bb at *
          refine AFun.of_walk hP Try.func17 rfl rfl rfl (by simp) rfl ?_
          simp only [Try.f17, byts, hE, hI, hI1, h0, encB, Int.toNat_zero, ← List.map_drop, ← List.map_take, List.take_length, hd, Int.toNat_one, Int.toNat_natCast, am, simprocAttr, tys]
          refine ⟨Int.le_refl _, ?_⟩
          refine ACallD.of (cloneB r (by omega)) (by kernel_rfl) [] [] rfl (by simp) (by simp) (by simp) (by simp) (by repeat' (first | exact trivial | exact .inl rfl | exact .inr rfl | exact .inr ⟨rfl, by simp⟩ | exact .inr ⟨rfl, rfl, by simp⟩ | apply And.intro)) (by repeat' (first | exact trivial | rfl | exact (tkC_ren.1 _ _).symm | (simp; done) | apply And.intro)) (by first | exact .inl rfl | (refine .inr ⟨trivial, ?_⟩; first | (intro row h; rcases List.mem_singleton.1 h with rfl; exact nvB _) | (intro row h; cases h; done) | (simp; done)) | (refine .inr ⟨by simp [nvP, nvP.nvPs, nvD, nilS, errno], ?_⟩; first | (intro row h; rcases List.mem_singleton.1 h with rfl; exact nvB _) | (intro row h; cases h; done) | (simp [nvRow, nvD, nvP]; done))) rfl rfl rfl rfl ?_
          simp only [byts, nilS, errno, e1, d1, e3, d3, e4, d4, e2, d2, FinR, evRes, evRVs, evRV, am, simprocAttr, tys]
          exact ⟨by kernel_rfl, ⟨_, [], [], rfl, Ent.plain rfl rfl rfl trivial rfl, rfl, rfl⟩⟩
        · have d2 : decide (c = 2) = false := decide_eq_false k2
          refine hfail2 (by unfold takeK; rw [if_neg k1, if_neg k3, if_neg k4, if_neg k2]) ?_
          generalize (c :: r : List UInt8) = bb at *
          refine AFun.of_walk hP Try.func17 rfl rfl rfl (by simp) rfl ?_
          simp only [Try.f17, byts, hE, hI, hI1, h0, encB, Int.toNat_zero, ← List.map_drop, ← List.map_take, List.take_length, hd, Int.toNat_one, Int.toNat_natCast, am, simprocAttr, tys]
          refine ⟨Int.le_refl _, ?_⟩
          refine ACallD.of (cloneB r (by omega)) (by kernel_rfl) [] [] rfl (by simp) (by simp) (by simp) (by simp) (by repeat' (first | exact trivial | exact .inl rfl | exact .inr rfl | exact .inr ⟨rfl, by simp⟩ | exact .inr ⟨rfl, rfl, by simp⟩ | apply And.intro)) (by repeat' (first | exact trivial | rfl | exact (tkC_ren.1 _ _).symm | (simp; done) | apply And.intro)) (by first | exact .inl rfl | (refine .inr ⟨trivial, ?_⟩; first | (intro row h; rcases List.mem_singleton.1 h with rfl; exact nvB _) | (intro row h; cases h; done) | (simp; done)) | (refine .inr ⟨by simp [nvP, nvP.nvPs, nvD, nilS, errno], ?_⟩; first | (intro row h; rcases List.mem_singleton.1 h with rfl; exact nvB _) | (intro row h; cases h; done) | (simp [nvRow, nvD, nvP]; done))) rfl rfl rfl rfl ?_
          simp only [byts, nilS, errno, e1, d1, e3, d3, e4, d4, e2, d2, FinR, evRes, evRVs, evRV, am, simprocAttr, tys]
          exact ⟨by kernel_rfl, ⟨_, [], [], rfl, Ent.plain rfl rfl rfl trivial rfl, rfl, rfl⟩⟩

theorem opTake (b : List UInt8) (hl : b.length ≤ 10000000) : AFun Try.prog 17 [byts b] [] (takeOR (takeO b)) [] := by
  rcases b with _ | ⟨c, r⟩
  · exact AFun.cle opTakeE ⟨.inl rfl, .inr ⟨rfl, 2, rfl⟩, .inl rfl, .inl rfl, .inr ⟨rfl, 3, rfl⟩, trivial⟩
  · exact opTakeC c r (by simp at hl; omega)
end Go.Proofs.Ytkadildabhkocaa
