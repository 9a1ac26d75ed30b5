/- Proved here: what the functions of the program compute. No condition. -/
import Derived.Test.YtflpphgccjlkjaaT4
import Derived.Test.YtflpphgccjlkjaaT5
import Derived.Test.YtflpphgccjlkjaaT1
set_option linter.all false
set_option linter.unusedSimpArgs false
set_option linter.unusedVariables false
set_option linter.unusedSimpArgs false
set_option linter.unusedVariables false
namespace Go.Proofs.Ytflpphgccjlkjaa
open Go Go.AM

def takeInt (b : List UInt8) : Option (Int × List UInt8) := match takeNum b with | none => none | some (u, r) => some (unfold' u, r)
def takeK (c : UInt8) (r : List UInt8) : Option (OpT × List UInt8) :=
    if c = 1 then (match takeLb r with
      | none => none
      | some (l, r1) => match takeNum r1 with
        | none => none
        | some (u, r2) => match takeNum r2 with
          | none => none
          | some (u2, r3) => some ((c, l, (unfold' u, unfold' u2, ()), [], ()), r3))
    else if c = 3 then (match takeNum r with
      | none => none
      | some (u, r1) => some ((c, [], (unfold' u, 0, ()), [], ()), r1))
    else if c = 4 then (match takeA r with
      | none => none
      | some (l, r1) => some ((c, [], (0, 0, ()), l, ()), r1))
    else if c = 2 then some ((c, [], (0, 0, ()), [], ()), r)
    else none
def takeO (b : List UInt8) : Option (OpT × List UInt8) := match b with
  | [] => none
  | c :: r => takeK c r
def zeroO : OpT := (0, [], (0, 0, ()), [], ())
def takeOR : Option (OpT × List UInt8) → PV
  | none => .tup [.d (.agg (encO zeroO)), nilS, errno 6]
  | some (o, r) => .tup [.d (.agg (encO o)), byts r, errno 0]

/-- nil for a slice of none -/
def cle : List DV → List DV → Prop
  | [], [] => True
  | x :: xs, y :: ys => (x = y ∨ (x = .lit (.slice none 0 0) ∧ ∃ sz, y = .sl sz [])) ∧ cle xs ys
  | _, _ => False
theorem reps_cle {w : World} {X : Nat → Prop} : ∀ {xs ys : List DV} {vs : List Value}, cle xs ys → reps w X xs vs → reps w X ys vs
  | [], [], vs, _, h => h
  | [], _ :: _, vs, h, _ => h.elim
  | _ :: _, [], vs, h, _ => h.elim
  | x :: xs, y :: ys, vs, h, hr => by
    obtain ⟨h1, h2⟩ := h
    unfold reps at hr ⊢
    obtain ⟨u, us, e, ho, r1, r2⟩ := hr
    refine ⟨u, us, e, ho, ?_, reps_cle h2 r2⟩
    rcases h1 with rfl | ⟨rfl, sz, rfl⟩
    · exact r1
    · exact nil_rep sz w X u r1
theorem AFun.cle {f : Nat} {args : List PV} {A B : List DV} {x y : DV} (h : AFun Try.prog f args [] (.tup [.d (.agg A), .d x, .d y]) []) (hc : cle A B) : AFun Try.prog f args [] (.tup [.d (.agg B), .d x, .d y]) [] := by
  refine AFun.weaken h ?_ ?_
  · exact ⟨trivial, trivial, trivial, trivial⟩
  · intro rows β w X v h
    unfold repP at h ⊢
    obtain ⟨vs, rfl, h⟩ := h
    refine ⟨vs, rfl, ?_⟩
    unfold repPs at h ⊢
    obtain ⟨u, us, rfl, h1, h2⟩ := h
    refine ⟨u, us, rfl, ?_, h2⟩
    unfold repP rep at h1 ⊢
    obtain ⟨vs', e, h1⟩ := h1
    exact ⟨vs', e, reps_cle hc h1⟩

abbrev nlD : DV := .lit (.slice none 0 0)
abbrev i64D (n : Int) : DV := .lit (.int .i64 n)
abbrev failO : PV := .tup [.d (.agg [.lit (.int .u8 0), nlD, i64D 0, i64D 0, nlD]), nilS, errno 6]

theorem opTakeE : AFun Try.prog 66 [byts []] [] failO [] := by
  refine AFun.of_walk hP Try.func66 rfl rfl rfl (by simp) rfl ?_
  simp only [Try.f66, byts, nilS, errno, FinR, evRes, evRVs, evRV, am, simprocAttr, tys]
  exact ⟨_, [], [], rfl, Ent.plain rfl rfl rfl trivial rfl, rfl, rfl⟩

set_option maxRecDepth 8000 in
set_option maxHeartbeats 2000000 in
theorem opTakeC (c : UInt8) (r : List UInt8) (hl : r.length ≤ 10000000) : AFun Try.prog 66 [byts (c :: r)] [] (takeOR (takeO (c :: r))) [] := by
  have hfail : AFun Try.prog 66 [byts (c :: r)] [] failO [] → AFun Try.prog 66 [byts (c :: r)] [] (takeOR none) [] := fun h => AFun.cle h ⟨.inl rfl, .inr ⟨rfl, 2, rfl⟩, .inl rfl, .inl rfl, .inr ⟨rfl, 3, rfl⟩, trivial⟩
  have hI : ((0 : Int) < (((c :: r : List UInt8).length : Nat) : Int)) := by rw [List.length_cons]; omega
  have hI1 : ((1 : Int) ≤ (((c :: r : List UInt8).length : Nat) : Int)) := by rw [List.length_cons]; omega
  have hE : ((((c :: r : List UInt8).length : Nat) : Int) == 0) = false := by rw [beq_eq_false_iff_ne, List.length_cons]; omega
  have h0 : (c :: r : List UInt8)[0]? = some c := rfl
  have hd : (c :: r : List UInt8).drop 1 = r := rfl
  have e1 : ((c.toNat : Int) == 1) = decide (c = 1) := u8eq c 1 (by omega)
  have e2 : ((c.toNat : Int) == 2) = decide (c = 2) := u8eq c 2 (by omega)
  have e3 : ((c.toNat : Int) == 3) = decide (c = 3) := u8eq c 3 (by omega)
  have e4 : ((c.toNat : Int) == 4) = decide (c = 4) := u8eq c 4 (by omega)
  have hfail2 : takeK c r = none → AFun Try.prog 66 [byts (c :: r)] [] failO [] → AFun Try.prog 66 [byts (c :: r)] [] (takeOR (takeO (c :: r))) [] := fun h w => by
    have e : takeO (c :: r) = none := h
    rw [e]; exact hfail w
  have hok : ∀ (o : OpT) (rest : List UInt8) (A : List DV), takeK c r = some (o, rest) → cle A (encO o) → AFun Try.prog 66 [byts (c :: r)] [] (.tup [.d (.agg A), byts rest, errno 0]) [] → AFun Try.prog 66 [byts (c :: r)] [] (takeOR (takeO (c :: r))) [] := fun o rest A h hc w => by
    have e : takeO (c :: r) = some (o, rest) := h
    rw [e]; exact AFun.cle w hc
  by_cases k1 : c = 1
  · have d1 : decide (c = 1) = true := decide_eq_true k1
    have cT := labelTake r (by omega)
    rcases hk : takeLb r with _ | ⟨l, r1⟩
    · refine hfail2 (by unfold takeK; rw [if_pos k1, hk]) ?_
      rw [hk] at cT
      generalize (c :: r : List UInt8) = bb at *
      refine AFun.of_walk hP Try.func66 rfl rfl rfl (by simp) rfl ?_
      simp only [Try.f66, byts, hE, hI, hI1, h0, encB, Int.toNat_zero, ← List.map_drop, ← List.map_take, List.take_length, hd, Int.toNat_one, Int.toNat_natCast, am, simprocAttr, tys]
      refine ⟨Int.le_refl _, ?_⟩
      refine ACallD.of (cloneB r (by omega)) (by kernel_rfl) [] [] rfl (by simp) (by simp) (by simp) (by simp) (by repeat' (first | exact trivial | exact .inl rfl | exact .inr rfl | exact .inr ⟨rfl, rfl, rfl, by simp; done⟩ | exact .inr ⟨rfl, by simp; done⟩ | exact .inr ⟨rfl, rfl, by simp; done⟩ | apply And.intro)) (by repeat' (first | exact trivial | rfl | exact (tkC_ren.1 _ _).symm | (simp; done) | apply And.intro)) (by first | exact .inl rfl | (refine .inr ⟨trivial, ?_⟩; first | (intro row h; rcases List.mem_singleton.1 h with rfl; exact nvB _) | (intro row h; cases h; done) | (simp; done)) | (refine .inr ⟨by simp [nvP, nvP.nvPs, nvD, nilS, errno], ?_⟩; first | (intro row h; rcases List.mem_singleton.1 h with rfl; exact nvB _) | (intro row h; cases h; done) | (simp [nvRow, nvD, nvP]; done))) rfl rfl rfl rfl ?_
      simp only [byts, e1, d1, am, simprocAttr, tys]
      refine ⟨by kernel_rfl, ?_⟩
      refine ACall.of (cT) [] [] rfl (by simp) (by simp) (by simp) (by repeat' (first | exact trivial | exact .inl rfl | exact .inr rfl | exact .inr ⟨rfl, rfl, rfl, by simp; done⟩ | exact .inr ⟨rfl, by simp; done⟩ | exact .inr ⟨rfl, rfl, by simp; done⟩ | apply And.intro)) (by repeat' (first | exact trivial | rfl | exact (tkC_ren.1 _ _).symm | (simp; done) | apply And.intro)) (by first | exact .inl rfl | (refine .inr ⟨trivial, ?_⟩; first | (intro row h; rcases List.mem_singleton.1 h with rfl; exact nvB _) | (intro row h; cases h; done) | (simp; done)) | (refine .inr ⟨by simp [nvP, nvP.nvPs, nvD, nilS, errno], ?_⟩; first | (intro row h; rcases List.mem_singleton.1 h with rfl; exact nvB _) | (intro row h; cases h; done) | (simp [nvRow, nvD, nvP]; done))) ?_
      simp only [takeLR, nilS, errno, FinR, evRes, evRVs, evRV, am, simprocAttr, tys]
      exact ⟨_, [], [], rfl, Ent.plain rfl rfl rfl trivial rfl, rfl, rfl⟩
    · rw [hk] at cT
      have hrl : r1.length ≤ r.length := by rw [(takeLb_some hk).2]; simp
      have hr1 : r1.length ≤ 100000000 := by omega
      rcases hn1 : takeNum r1 with _ | ⟨u, r2⟩
      · refine hfail2 (by unfold takeK; rw [if_pos k1, hk]; simp only [hn1]) ?_
        by_cases hr0 : r1 = []
        · skip
          generalize (c :: r : List UInt8) = bb at *
          refine AFun.of_walk hP Try.func66 rfl rfl rfl (by simp) rfl ?_
          simp only [Try.f66, byts, hE, hI, hI1, h0, encB, Int.toNat_zero, ← List.map_drop, ← List.map_take, List.take_length, hd, Int.toNat_one, Int.toNat_natCast, am, simprocAttr, tys]
          refine ⟨Int.le_refl _, ?_⟩
          refine ACallD.of (cloneB r (by omega)) (by kernel_rfl) [] [] rfl (by simp) (by simp) (by simp) (by simp) (by repeat' (first | exact trivial | exact .inl rfl | exact .inr rfl | exact .inr ⟨rfl, rfl, rfl, by simp; done⟩ | exact .inr ⟨rfl, by simp; done⟩ | exact .inr ⟨rfl, rfl, by simp; done⟩ | apply And.intro)) (by repeat' (first | exact trivial | rfl | exact (tkC_ren.1 _ _).symm | (simp; done) | apply And.intro)) (by first | exact .inl rfl | (refine .inr ⟨trivial, ?_⟩; first | (intro row h; rcases List.mem_singleton.1 h with rfl; exact nvB _) | (intro row h; cases h; done) | (simp; done)) | (refine .inr ⟨by simp [nvP, nvP.nvPs, nvD, nilS, errno], ?_⟩; first | (intro row h; rcases List.mem_singleton.1 h with rfl; exact nvB _) | (intro row h; cases h; done) | (simp [nvRow, nvD, nvP]; done))) rfl rfl rfl rfl ?_
          simp only [byts, e1, d1, am, simprocAttr, tys]
          refine ⟨by kernel_rfl, ?_⟩
          refine ACall.of (cT) [] [] rfl (by simp) (by simp) (by simp) (by repeat' (first | exact trivial | exact .inl rfl | exact .inr rfl | exact .inr ⟨rfl, rfl, rfl, by simp; done⟩ | exact .inr ⟨rfl, by simp; done⟩ | exact .inr ⟨rfl, rfl, by simp; done⟩ | apply And.intro)) (by repeat' (first | exact trivial | rfl | exact (tkC_ren.1 _ _).symm | (simp; done) | apply And.intro)) (by first | exact .inl rfl | (refine .inr ⟨trivial, ?_⟩; first | (intro row h; rcases List.mem_singleton.1 h with rfl; exact nvB _) | (intro row h; cases h; done) | (simp; done)) | (refine .inr ⟨by simp [nvP, nvP.nvPs, nvD, nilS, errno], ?_⟩; first | (intro row h; rcases List.mem_singleton.1 h with rfl; exact nvB _) | (intro row h; cases h; done) | (simp [nvRow, nvD, nvP]; done))) ?_
          simp only [takeLR, errno, am, simprocAttr, tys]
          refine ACall.of (ints2E (.lit (.int .u8 c.toNat)) (.sl 2 (l.map encL)) nlD 0 0 r1 hr1 hr0) [449, 705] [] rfl (by simp) (by simp) (by simp) (by repeat' (first | exact trivial | exact .inl rfl | exact .inr rfl | exact .inr ⟨rfl, rfl, rfl, by simp; done⟩ | exact .inr ⟨rfl, by simp; done⟩ | exact .inr ⟨rfl, rfl, by simp; done⟩ | apply And.intro)) (by repeat' (first | exact trivial | rfl | exact (tkC_ren.1 _ _).symm | (simp; done) | apply And.intro)) (by first | exact .inl rfl | (refine .inr ⟨trivial, ?_⟩; first | (intro row h; rcases List.mem_singleton.1 h with rfl; exact nvB _) | (intro row h; cases h; done) | (simp; done)) | (refine .inr ⟨by simp [nvP, nvP.nvPs, nvD, nilS, errno], ?_⟩; first | (intro row h; rcases List.mem_singleton.1 h with rfl; exact nvB _) | (intro row h; cases h; done) | (simp [nvRow, nvD, nvP]; done))) ?_
          simp only [bool, int, nlD, i64D, byts, nilS, errno, FinR, evRes, evRVs, evRV, am, simprocAttr, tys]
          exact ⟨_, [], [], rfl, Ent.plain rfl rfl rfl trivial rfl, rfl, rfl⟩
        · skip
          generalize (c :: r : List UInt8) = bb at *
          refine AFun.of_walk hP Try.func66 rfl rfl rfl (by simp) rfl ?_
          simp only [Try.f66, byts, hE, hI, hI1, h0, encB, Int.toNat_zero, ← List.map_drop, ← List.map_take, List.take_length, hd, Int.toNat_one, Int.toNat_natCast, am, simprocAttr, tys]
          refine ⟨Int.le_refl _, ?_⟩
          refine ACallD.of (cloneB r (by omega)) (by kernel_rfl) [] [] rfl (by simp) (by simp) (by simp) (by simp) (by repeat' (first | exact trivial | exact .inl rfl | exact .inr rfl | exact .inr ⟨rfl, rfl, rfl, by simp; done⟩ | exact .inr ⟨rfl, by simp; done⟩ | exact .inr ⟨rfl, rfl, by simp; done⟩ | apply And.intro)) (by repeat' (first | exact trivial | rfl | exact (tkC_ren.1 _ _).symm | (simp; done) | apply And.intro)) (by first | exact .inl rfl | (refine .inr ⟨trivial, ?_⟩; first | (intro row h; rcases List.mem_singleton.1 h with rfl; exact nvB _) | (intro row h; cases h; done) | (simp; done)) | (refine .inr ⟨by simp [nvP, nvP.nvPs, nvD, nilS, errno], ?_⟩; first | (intro row h; rcases List.mem_singleton.1 h with rfl; exact nvB _) | (intro row h; cases h; done) | (simp [nvRow, nvD, nvP]; done))) rfl rfl rfl rfl ?_
          simp only [byts, e1, d1, am, simprocAttr, tys]
          refine ⟨by kernel_rfl, ?_⟩
          refine ACall.of (cT) [] [] rfl (by simp) (by simp) (by simp) (by repeat' (first | exact trivial | exact .inl rfl | exact .inr rfl | exact .inr ⟨rfl, rfl, rfl, by simp; done⟩ | exact .inr ⟨rfl, by simp; done⟩ | exact .inr ⟨rfl, rfl, by simp; done⟩ | apply And.intro)) (by repeat' (first | exact trivial | rfl | exact (tkC_ren.1 _ _).symm | (simp; done) | apply And.intro)) (by first | exact .inl rfl | (refine .inr ⟨trivial, ?_⟩; first | (intro row h; rcases List.mem_singleton.1 h with rfl; exact nvB _) | (intro row h; cases h; done) | (simp; done)) | (refine .inr ⟨by simp [nvP, nvP.nvPs, nvD, nilS, errno], ?_⟩; first | (intro row h; rcases List.mem_singleton.1 h with rfl; exact nvB _) | (intro row h; cases h; done) | (simp [nvRow, nvD, nvP]; done))) ?_
          simp only [takeLR, errno, am, simprocAttr, tys]
          refine ACall.of (ints2M (.lit (.int .u8 c.toNat)) (.sl 2 (l.map encL)) nlD 0 0 r1 hr1 hr0 hn1) [449, 705] [] rfl (by simp) (by simp) (by simp) (by repeat' (first | exact trivial | exact .inl rfl | exact .inr rfl | exact .inr ⟨rfl, rfl, rfl, by simp; done⟩ | exact .inr ⟨rfl, by simp; done⟩ | exact .inr ⟨rfl, rfl, by simp; done⟩ | apply And.intro)) (by repeat' (first | exact trivial | rfl | exact (tkC_ren.1 _ _).symm | (simp; done) | apply And.intro)) (by first | exact .inl rfl | (refine .inr ⟨trivial, ?_⟩; first | (intro row h; rcases List.mem_singleton.1 h with rfl; exact nvB _) | (intro row h; cases h; done) | (simp; done)) | (refine .inr ⟨by simp [nvP, nvP.nvPs, nvD, nilS, errno], ?_⟩; first | (intro row h; rcases List.mem_singleton.1 h with rfl; exact nvB _) | (intro row h; cases h; done) | (simp [nvRow, nvD, nvP]; done))) ?_
          simp only [bool, int, nlD, i64D, byts, nilS, errno, FinR, evRes, evRVs, evRV, am, simprocAttr, tys]
          exact ⟨_, [], [], rfl, Ent.plain rfl rfl rfl trivial rfl, rfl, rfl⟩
      · rcases hn2 : takeNum r2 with _ | ⟨u2, r3⟩
        · refine hfail2 (by unfold takeK; rw [if_pos k1, hk]; simp only [hn1, hn2]) ?_
          by_cases hr0 : r2 = []
          · rw [hr0] at hn1
            generalize (c :: r : List UInt8) = bb at *
            refine AFun.of_walk hP Try.func66 rfl rfl rfl (by simp) rfl ?_
            simp only [Try.f66, byts, hE, hI, hI1, h0, encB, Int.toNat_zero, ← List.map_drop, ← List.map_take, List.take_length, hd, Int.toNat_one, Int.toNat_natCast, am, simprocAttr, tys]
            refine ⟨Int.le_refl _, ?_⟩
            refine ACallD.of (cloneB r (by omega)) (by kernel_rfl) [] [] rfl (by simp) (by simp) (by simp) (by simp) (by repeat' (first | exact trivial | exact .inl rfl | exact .inr rfl | exact .inr ⟨rfl, rfl, rfl, by simp; done⟩ | exact .inr ⟨rfl, by simp; done⟩ | exact .inr ⟨rfl, rfl, by simp; done⟩ | apply And.intro)) (by repeat' (first | exact trivial | rfl | exact (tkC_ren.1 _ _).symm | (simp; done) | apply And.intro)) (by first | exact .inl rfl | (refine .inr ⟨trivial, ?_⟩; first | (intro row h; rcases List.mem_singleton.1 h with rfl; exact nvB _) | (intro row h; cases h; done) | (simp; done)) | (refine .inr ⟨by simp [nvP, nvP.nvPs, nvD, nilS, errno], ?_⟩; first | (intro row h; rcases List.mem_singleton.1 h with rfl; exact nvB _) | (intro row h; cases h; done) | (simp [nvRow, nvD, nvP]; done))) rfl rfl rfl rfl ?_
            simp only [byts, e1, d1, am, simprocAttr, tys]
            refine ⟨by kernel_rfl, ?_⟩
            refine ACall.of (cT) [] [] rfl (by simp) (by simp) (by simp) (by repeat' (first | exact trivial | exact .inl rfl | exact .inr rfl | exact .inr ⟨rfl, rfl, rfl, by simp; done⟩ | exact .inr ⟨rfl, by simp; done⟩ | exact .inr ⟨rfl, rfl, by simp; done⟩ | apply And.intro)) (by repeat' (first | exact trivial | rfl | exact (tkC_ren.1 _ _).symm | (simp; done) | apply And.intro)) (by first | exact .inl rfl | (refine .inr ⟨trivial, ?_⟩; first | (intro row h; rcases List.mem_singleton.1 h with rfl; exact nvB _) | (intro row h; cases h; done) | (simp; done)) | (refine .inr ⟨by simp [nvP, nvP.nvPs, nvD, nilS, errno], ?_⟩; first | (intro row h; rcases List.mem_singleton.1 h with rfl; exact nvB _) | (intro row h; cases h; done) | (simp [nvRow, nvD, nvP]; done))) ?_
            simp only [takeLR, errno, am, simprocAttr, tys]
            refine ACall.of (ints2F (.lit (.int .u8 c.toNat)) (.sl 2 (l.map encL)) nlD 0 0 r1 hr1 u hn1) [449, 705] [] rfl (by simp) (by simp) (by simp) (by repeat' (first | exact trivial | exact .inl rfl | exact .inr rfl | exact .inr ⟨rfl, rfl, rfl, by simp; done⟩ | exact .inr ⟨rfl, by simp; done⟩ | exact .inr ⟨rfl, rfl, by simp; done⟩ | apply And.intro)) (by repeat' (first | exact trivial | rfl | exact (tkC_ren.1 _ _).symm | (simp; done) | apply And.intro)) (by first | exact .inl rfl | (refine .inr ⟨trivial, ?_⟩; first | (intro row h; rcases List.mem_singleton.1 h with rfl; exact nvB _) | (intro row h; cases h; done) | (simp; done)) | (refine .inr ⟨by simp [nvP, nvP.nvPs, nvD, nilS, errno], ?_⟩; first | (intro row h; rcases List.mem_singleton.1 h with rfl; exact nvB _) | (intro row h; cases h; done) | (simp [nvRow, nvD, nvP]; done))) ?_
            simp only [bool, int, nlD, i64D, byts, nilS, errno, FinR, evRes, evRVs, evRV, am, simprocAttr, tys]
            exact ⟨_, [], [], rfl, Ent.plain rfl rfl rfl trivial rfl, rfl, rfl⟩
          · skip
            generalize (c :: r : List UInt8) = bb at *
            refine AFun.of_walk hP Try.func66 rfl rfl rfl (by simp) rfl ?_
            simp only [Try.f66, byts, hE, hI, hI1, h0, encB, Int.toNat_zero, ← List.map_drop, ← List.map_take, List.take_length, hd, Int.toNat_one, Int.toNat_natCast, am, simprocAttr, tys]
            refine ⟨Int.le_refl _, ?_⟩
            refine ACallD.of (cloneB r (by omega)) (by kernel_rfl) [] [] rfl (by simp) (by simp) (by simp) (by simp) (by repeat' (first | exact trivial | exact .inl rfl | exact .inr rfl | exact .inr ⟨rfl, rfl, rfl, by simp; done⟩ | exact .inr ⟨rfl, by simp; done⟩ | exact .inr ⟨rfl, rfl, by simp; done⟩ | apply And.intro)) (by repeat' (first | exact trivial | rfl | exact (tkC_ren.1 _ _).symm | (simp; done) | apply And.intro)) (by first | exact .inl rfl | (refine .inr ⟨trivial, ?_⟩; first | (intro row h; rcases List.mem_singleton.1 h with rfl; exact nvB _) | (intro row h; cases h; done) | (simp; done)) | (refine .inr ⟨by simp [nvP, nvP.nvPs, nvD, nilS, errno], ?_⟩; first | (intro row h; rcases List.mem_singleton.1 h with rfl; exact nvB _) | (intro row h; cases h; done) | (simp [nvRow, nvD, nvP]; done))) rfl rfl rfl rfl ?_
            simp only [byts, e1, d1, am, simprocAttr, tys]
            refine ⟨by kernel_rfl, ?_⟩
            refine ACall.of (cT) [] [] rfl (by simp) (by simp) (by simp) (by repeat' (first | exact trivial | exact .inl rfl | exact .inr rfl | exact .inr ⟨rfl, rfl, rfl, by simp; done⟩ | exact .inr ⟨rfl, by simp; done⟩ | exact .inr ⟨rfl, rfl, by simp; done⟩ | apply And.intro)) (by repeat' (first | exact trivial | rfl | exact (tkC_ren.1 _ _).symm | (simp; done) | apply And.intro)) (by first | exact .inl rfl | (refine .inr ⟨trivial, ?_⟩; first | (intro row h; rcases List.mem_singleton.1 h with rfl; exact nvB _) | (intro row h; cases h; done) | (simp; done)) | (refine .inr ⟨by simp [nvP, nvP.nvPs, nvD, nilS, errno], ?_⟩; first | (intro row h; rcases List.mem_singleton.1 h with rfl; exact nvB _) | (intro row h; cases h; done) | (simp [nvRow, nvD, nvP]; done))) ?_
            simp only [takeLR, errno, am, simprocAttr, tys]
            refine ACall.of (ints2G (.lit (.int .u8 c.toNat)) (.sl 2 (l.map encL)) nlD 0 0 r1 hr1 u r2 hn1 hr0 hn2) [449, 705] [] rfl (by simp) (by simp) (by simp) (by repeat' (first | exact trivial | exact .inl rfl | exact .inr rfl | exact .inr ⟨rfl, rfl, rfl, by simp; done⟩ | exact .inr ⟨rfl, by simp; done⟩ | exact .inr ⟨rfl, rfl, by simp; done⟩ | apply And.intro)) (by repeat' (first | exact trivial | rfl | exact (tkC_ren.1 _ _).symm | (simp; done) | apply And.intro)) (by first | exact .inl rfl | (refine .inr ⟨trivial, ?_⟩; first | (intro row h; rcases List.mem_singleton.1 h with rfl; exact nvB _) | (intro row h; cases h; done) | (simp; done)) | (refine .inr ⟨by simp [nvP, nvP.nvPs, nvD, nilS, errno], ?_⟩; first | (intro row h; rcases List.mem_singleton.1 h with rfl; exact nvB _) | (intro row h; cases h; done) | (simp [nvRow, nvD, nvP]; done))) ?_
            simp only [bool, int, nlD, i64D, byts, nilS, errno, FinR, evRes, evRVs, evRV, am, simprocAttr, tys]
            exact ⟨_, [], [], rfl, Ent.plain rfl rfl rfl trivial rfl, rfl, rfl⟩
        · refine hok (c, l, (unfold' u, unfold' u2, ()), [], ()) r3 [.lit (.int .u8 c.toNat), .sl 2 (l.map encL), i64D (unfold' u), i64D (unfold' u2), nlD] (by unfold takeK; rw [if_pos k1, hk]; simp only [hn1, hn2]) ⟨.inl rfl, .inl rfl, .inl rfl, .inl rfl, .inr ⟨rfl, 3, rfl⟩, trivial⟩ ?_
          generalize (c :: r : List UInt8) = bb at *
          refine AFun.of_walk hP Try.func66 rfl rfl rfl (by simp) rfl ?_
          simp only [Try.f66, byts, hE, hI, hI1, h0, encB, Int.toNat_zero, ← List.map_drop, ← List.map_take, List.take_length, hd, Int.toNat_one, Int.toNat_natCast, am, simprocAttr, tys]
          refine ⟨Int.le_refl _, ?_⟩
          refine ACallD.of (cloneB r (by omega)) (by kernel_rfl) [] [] rfl (by simp) (by simp) (by simp) (by simp) (by repeat' (first | exact trivial | exact .inl rfl | exact .inr rfl | exact .inr ⟨rfl, rfl, rfl, by simp; done⟩ | exact .inr ⟨rfl, by simp; done⟩ | exact .inr ⟨rfl, rfl, by simp; done⟩ | apply And.intro)) (by repeat' (first | exact trivial | rfl | exact (tkC_ren.1 _ _).symm | (simp; done) | apply And.intro)) (by first | exact .inl rfl | (refine .inr ⟨trivial, ?_⟩; first | (intro row h; rcases List.mem_singleton.1 h with rfl; exact nvB _) | (intro row h; cases h; done) | (simp; done)) | (refine .inr ⟨by simp [nvP, nvP.nvPs, nvD, nilS, errno], ?_⟩; first | (intro row h; rcases List.mem_singleton.1 h with rfl; exact nvB _) | (intro row h; cases h; done) | (simp [nvRow, nvD, nvP]; done))) rfl rfl rfl rfl ?_
          simp only [byts, e1, d1, am, simprocAttr, tys]
          refine ⟨by kernel_rfl, ?_⟩
          refine ACall.of (cT) [] [] rfl (by simp) (by simp) (by simp) (by repeat' (first | exact trivial | exact .inl rfl | exact .inr rfl | exact .inr ⟨rfl, rfl, rfl, by simp; done⟩ | exact .inr ⟨rfl, by simp; done⟩ | exact .inr ⟨rfl, rfl, by simp; done⟩ | apply And.intro)) (by repeat' (first | exact trivial | rfl | exact (tkC_ren.1 _ _).symm | (simp; done) | apply And.intro)) (by first | exact .inl rfl | (refine .inr ⟨trivial, ?_⟩; first | (intro row h; rcases List.mem_singleton.1 h with rfl; exact nvB _) | (intro row h; cases h; done) | (simp; done)) | (refine .inr ⟨by simp [nvP, nvP.nvPs, nvD, nilS, errno], ?_⟩; first | (intro row h; rcases List.mem_singleton.1 h with rfl; exact nvB _) | (intro row h; cases h; done) | (simp [nvRow, nvD, nvP]; done))) ?_
          simp only [takeLR, errno, am, simprocAttr, tys]
          refine ACall.of (ints2Y (.lit (.int .u8 c.toNat)) (.sl 2 (l.map encL)) nlD 0 0 r1 hr1 u r2 hn1 u2 r3 hn2) [449, 705] [] rfl (by simp) (by simp) (by simp) (by repeat' (first | exact trivial | exact .inl rfl | exact .inr rfl | exact .inr ⟨rfl, rfl, rfl, by simp; done⟩ | exact .inr ⟨rfl, by simp; done⟩ | exact .inr ⟨rfl, rfl, by simp; done⟩ | apply And.intro)) (by repeat' (first | exact trivial | rfl | exact (tkC_ren.1 _ _).symm | (simp; done) | apply And.intro)) (by first | exact .inl rfl | (refine .inr ⟨trivial, ?_⟩; first | (intro row h; rcases List.mem_singleton.1 h with rfl; exact nvB _) | (intro row h; cases h; done) | (simp; done)) | (refine .inr ⟨by simp [nvP, nvP.nvPs, nvD, nilS, errno], ?_⟩; first | (intro row h; rcases List.mem_singleton.1 h with rfl; exact nvB _) | (intro row h; cases h; done) | (simp [nvRow, nvD, nvP]; done))) ?_
          simp only [bool, int, nlD, i64D, byts, nilS, errno, FinR, evRes, evRVs, evRV, am, simprocAttr, tys]
          exact ⟨_, [], [], rfl, Ent.plain rfl rfl rfl trivial rfl, rfl, rfl⟩
  · have d1 : decide (c = 1) = false := decide_eq_false k1
    by_cases k3 : c = 3
    · have d3 : decide (c = 3) = true := decide_eq_true k3
      rcases hn1 : takeNum r with _ | ⟨u, r1⟩
      · refine hfail2 (by unfold takeK; rw [if_neg k1, if_pos k3, hn1]) ?_
        by_cases hr0 : r = []
        · skip
          generalize (c :: r : List UInt8) = bb at *
          refine AFun.of_walk hP Try.func66 rfl rfl rfl (by simp) rfl ?_
          simp only [Try.f66, byts, hE, hI, hI1, h0, encB, Int.toNat_zero, ← List.map_drop, ← List.map_take, List.take_length, hd, Int.toNat_one, Int.toNat_natCast, am, simprocAttr, tys]
          refine ⟨Int.le_refl _, ?_⟩
          refine ACallD.of (cloneB r (by omega)) (by kernel_rfl) [] [] rfl (by simp) (by simp) (by simp) (by simp) (by repeat' (first | exact trivial | exact .inl rfl | exact .inr rfl | exact .inr ⟨rfl, rfl, rfl, by simp; done⟩ | exact .inr ⟨rfl, by simp; done⟩ | exact .inr ⟨rfl, rfl, by simp; done⟩ | apply And.intro)) (by repeat' (first | exact trivial | rfl | exact (tkC_ren.1 _ _).symm | (simp; done) | apply And.intro)) (by first | exact .inl rfl | (refine .inr ⟨trivial, ?_⟩; first | (intro row h; rcases List.mem_singleton.1 h with rfl; exact nvB _) | (intro row h; cases h; done) | (simp; done)) | (refine .inr ⟨by simp [nvP, nvP.nvPs, nvD, nilS, errno], ?_⟩; first | (intro row h; rcases List.mem_singleton.1 h with rfl; exact nvB _) | (intro row h; cases h; done) | (simp [nvRow, nvD, nvP]; done))) rfl rfl rfl rfl ?_
          simp only [byts, e1, d1, e3, d3, am, simprocAttr, tys]
          refine ⟨by kernel_rfl, ?_⟩
          refine ACall.of (ints1E (.lit (.int .u8 c.toNat)) nlD nlD 0 0 r (by omega) hr0) [449, 705] [] rfl (by simp) (by simp) (by simp) (by repeat' (first | exact trivial | exact .inl rfl | exact .inr rfl | exact .inr ⟨rfl, rfl, rfl, by simp; done⟩ | exact .inr ⟨rfl, by simp; done⟩ | exact .inr ⟨rfl, rfl, by simp; done⟩ | apply And.intro)) (by repeat' (first | exact trivial | rfl | exact (tkC_ren.1 _ _).symm | (simp; done) | apply And.intro)) (by first | exact .inl rfl | (refine .inr ⟨trivial, ?_⟩; first | (intro row h; rcases List.mem_singleton.1 h with rfl; exact nvB _) | (intro row h; cases h; done) | (simp; done)) | (refine .inr ⟨by simp [nvP, nvP.nvPs, nvD, nilS, errno], ?_⟩; first | (intro row h; rcases List.mem_singleton.1 h with rfl; exact nvB _) | (intro row h; cases h; done) | (simp [nvRow, nvD, nvP]; done))) ?_
          simp only [bool, int, nlD, i64D, byts, nilS, errno, FinR, evRes, evRVs, evRV, am, simprocAttr, tys]
          exact ⟨_, [], [], rfl, Ent.plain rfl rfl rfl trivial rfl, rfl, rfl⟩
        · skip
          generalize (c :: r : List UInt8) = bb at *
          refine AFun.of_walk hP Try.func66 rfl rfl rfl (by simp) rfl ?_
          simp only [Try.f66, byts, hE, hI, hI1, h0, encB, Int.toNat_zero, ← List.map_drop, ← List.map_take, List.take_length, hd, Int.toNat_one, Int.toNat_natCast, am, simprocAttr, tys]
          refine ⟨Int.le_refl _, ?_⟩
          refine ACallD.of (cloneB r (by omega)) (by kernel_rfl) [] [] rfl (by simp) (by simp) (by simp) (by simp) (by repeat' (first | exact trivial | exact .inl rfl | exact .inr rfl | exact .inr ⟨rfl, rfl, rfl, by simp; done⟩ | exact .inr ⟨rfl, by simp; done⟩ | exact .inr ⟨rfl, rfl, by simp; done⟩ | apply And.intro)) (by repeat' (first | exact trivial | rfl | exact (tkC_ren.1 _ _).symm | (simp; done) | apply And.intro)) (by first | exact .inl rfl | (refine .inr ⟨trivial, ?_⟩; first | (intro row h; rcases List.mem_singleton.1 h with rfl; exact nvB _) | (intro row h; cases h; done) | (simp; done)) | (refine .inr ⟨by simp [nvP, nvP.nvPs, nvD, nilS, errno], ?_⟩; first | (intro row h; rcases List.mem_singleton.1 h with rfl; exact nvB _) | (intro row h; cases h; done) | (simp [nvRow, nvD, nvP]; done))) rfl rfl rfl rfl ?_
          simp only [byts, e1, d1, e3, d3, am, simprocAttr, tys]
          refine ⟨by kernel_rfl, ?_⟩
          refine ACall.of (ints1M (.lit (.int .u8 c.toNat)) nlD nlD 0 0 r (by omega) hr0 hn1) [449, 705] [] rfl (by simp) (by simp) (by simp) (by repeat' (first | exact trivial | exact .inl rfl | exact .inr rfl | exact .inr ⟨rfl, rfl, rfl, by simp; done⟩ | exact .inr ⟨rfl, by simp; done⟩ | exact .inr ⟨rfl, rfl, by simp; done⟩ | apply And.intro)) (by repeat' (first | exact trivial | rfl | exact (tkC_ren.1 _ _).symm | (simp; done) | apply And.intro)) (by first | exact .inl rfl | (refine .inr ⟨trivial, ?_⟩; first | (intro row h; rcases List.mem_singleton.1 h with rfl; exact nvB _) | (intro row h; cases h; done) | (simp; done)) | (refine .inr ⟨by simp [nvP, nvP.nvPs, nvD, nilS, errno], ?_⟩; first | (intro row h; rcases List.mem_singleton.1 h with rfl; exact nvB _) | (intro row h; cases h; done) | (simp [nvRow, nvD, nvP]; done))) ?_
          simp only [bool, int, nlD, i64D, byts, nilS, errno, FinR, evRes, evRVs, evRV, am, simprocAttr, tys]
          exact ⟨_, [], [], rfl, Ent.plain rfl rfl rfl trivial rfl, rfl, rfl⟩
      · refine hok (c, [], (unfold' u, 0, ()), [], ()) r1 [.lit (.int .u8 c.toNat), nlD, i64D (unfold' u), i64D 0, nlD] (by unfold takeK; rw [if_neg k1, if_pos k3, hn1]) ⟨.inl rfl, .inr ⟨rfl, 2, rfl⟩, .inl rfl, .inl rfl, .inr ⟨rfl, 3, rfl⟩, trivial⟩ ?_
        generalize (c :: r : List UInt8) = bb at *
        refine AFun.of_walk hP Try.func66 rfl rfl rfl (by simp) rfl ?_
        simp only [Try.f66, byts, hE, hI, hI1, h0, encB, Int.toNat_zero, ← List.map_drop, ← List.map_take, List.take_length, hd, Int.toNat_one, Int.toNat_natCast, am, simprocAttr, tys]
        refine ⟨Int.le_refl _, ?_⟩
        refine ACallD.of (cloneB r (by omega)) (by kernel_rfl) [] [] rfl (by simp) (by simp) (by simp) (by simp) (by repeat' (first | exact trivial | exact .inl rfl | exact .inr rfl | exact .inr ⟨rfl, rfl, rfl, by simp; done⟩ | exact .inr ⟨rfl, by simp; done⟩ | exact .inr ⟨rfl, rfl, by simp; done⟩ | apply And.intro)) (by repeat' (first | exact trivial | rfl | exact (tkC_ren.1 _ _).symm | (simp; done) | apply And.intro)) (by first | exact .inl rfl | (refine .inr ⟨trivial, ?_⟩; first | (intro row h; rcases List.mem_singleton.1 h with rfl; exact nvB _) | (intro row h; cases h; done) | (simp; done)) | (refine .inr ⟨by simp [nvP, nvP.nvPs, nvD, nilS, errno], ?_⟩; first | (intro row h; rcases List.mem_singleton.1 h with rfl; exact nvB _) | (intro row h; cases h; done) | (simp [nvRow, nvD, nvP]; done))) rfl rfl rfl rfl ?_
        simp only [byts, e1, d1, e3, d3, am, simprocAttr, tys]
        refine ⟨by kernel_rfl, ?_⟩
        refine ACall.of (ints1Y (.lit (.int .u8 c.toNat)) nlD nlD 0 0 r (by omega) u r1 hn1) [449, 705] [] rfl (by simp) (by simp) (by simp) (by repeat' (first | exact trivial | exact .inl rfl | exact .inr rfl | exact .inr ⟨rfl, rfl, rfl, by simp; done⟩ | exact .inr ⟨rfl, by simp; done⟩ | exact .inr ⟨rfl, rfl, by simp; done⟩ | apply And.intro)) (by repeat' (first | exact trivial | rfl | exact (tkC_ren.1 _ _).symm | (simp; done) | apply And.intro)) (by first | exact .inl rfl | (refine .inr ⟨trivial, ?_⟩; first | (intro row h; rcases List.mem_singleton.1 h with rfl; exact nvB _) | (intro row h; cases h; done) | (simp; done)) | (refine .inr ⟨by simp [nvP, nvP.nvPs, nvD, nilS, errno], ?_⟩; first | (intro row h; rcases List.mem_singleton.1 h with rfl; exact nvB _) | (intro row h; cases h; done) | (simp [nvRow, nvD, nvP]; done))) ?_
        simp only [bool, int, nlD, i64D, byts, nilS, errno, FinR, evRes, evRVs, evRV, am, simprocAttr, tys]
        exact ⟨_, [], [], rfl, Ent.plain rfl rfl rfl trivial rfl, rfl, rfl⟩
    · have d3 : decide (c = 3) = false := decide_eq_false k3
      by_cases k4 : c = 4
      · have d4 : decide (c = 4) = true := decide_eq_true k4
        have cT := matchTake r (by omega)
        rcases hk : takeA r with _ | ⟨l, r1⟩
        · refine hfail2 (by unfold takeK; rw [if_neg k1, if_neg k3, if_pos k4, hk]) ?_
          rw [hk] at cT
          generalize (c :: r : List UInt8) = bb at *
          refine AFun.of_walk hP Try.func66 rfl rfl rfl (by simp) rfl ?_
          simp only [Try.f66, byts, hE, hI, hI1, h0, encB, Int.toNat_zero, ← List.map_drop, ← List.map_take, List.take_length, hd, Int.toNat_one, Int.toNat_natCast, am, simprocAttr, tys]
          refine ⟨Int.le_refl _, ?_⟩
          refine ACallD.of (cloneB r (by omega)) (by kernel_rfl) [] [] rfl (by simp) (by simp) (by simp) (by simp) (by repeat' (first | exact trivial | exact .inl rfl | exact .inr rfl | exact .inr ⟨rfl, rfl, rfl, by simp; done⟩ | exact .inr ⟨rfl, by simp; done⟩ | exact .inr ⟨rfl, rfl, by simp; done⟩ | apply And.intro)) (by repeat' (first | exact trivial | rfl | exact (tkC_ren.1 _ _).symm | (simp; done) | apply And.intro)) (by first | exact .inl rfl | (refine .inr ⟨trivial, ?_⟩; first | (intro row h; rcases List.mem_singleton.1 h with rfl; exact nvB _) | (intro row h; cases h; done) | (simp; done)) | (refine .inr ⟨by simp [nvP, nvP.nvPs, nvD, nilS, errno], ?_⟩; first | (intro row h; rcases List.mem_singleton.1 h with rfl; exact nvB _) | (intro row h; cases h; done) | (simp [nvRow, nvD, nvP]; done))) rfl rfl rfl rfl ?_
          simp only [byts, e1, d1, e3, d3, e4, d4, am, simprocAttr, tys]
          refine ⟨by kernel_rfl, ?_⟩
          refine ACall.of (cT) [] [] rfl (by simp) (by simp) (by simp) (by repeat' (first | exact trivial | exact .inl rfl | exact .inr rfl | exact .inr ⟨rfl, rfl, rfl, by simp; done⟩ | exact .inr ⟨rfl, by simp; done⟩ | exact .inr ⟨rfl, rfl, by simp; done⟩ | apply And.intro)) (by repeat' (first | exact trivial | rfl | exact (tkC_ren.1 _ _).symm | (simp; done) | apply And.intro)) (by first | exact .inl rfl | (refine .inr ⟨trivial, ?_⟩; first | (intro row h; rcases List.mem_singleton.1 h with rfl; exact nvB _) | (intro row h; cases h; done) | (simp; done)) | (refine .inr ⟨by simp [nvP, nvP.nvPs, nvD, nilS, errno], ?_⟩; first | (intro row h; rcases List.mem_singleton.1 h with rfl; exact nvB _) | (intro row h; cases h; done) | (simp [nvRow, nvD, nvP]; done))) ?_
          simp only [takeAR, nilS, errno, FinR, evRes, evRVs, evRV, am, simprocAttr, tys]
          exact ⟨_, [], [], rfl, Ent.plain rfl rfl rfl trivial rfl, rfl, rfl⟩
        · refine hok (c, [], (0, 0, ()), l, ()) r1 [.lit (.int .u8 c.toNat), nlD, i64D 0, i64D 0, .sl 3 (l.map encA)] (by unfold takeK; rw [if_neg k1, if_neg k3, if_pos k4, hk]) ⟨.inl rfl, .inr ⟨rfl, 2, rfl⟩, .inl rfl, .inl rfl, .inl rfl, trivial⟩ ?_
          rw [hk] at cT
          generalize (c :: r : List UInt8) = bb at *
          refine AFun.of_walk hP Try.func66 rfl rfl rfl (by simp) rfl ?_
          simp only [Try.f66, byts, hE, hI, hI1, h0, encB, Int.toNat_zero, ← List.map_drop, ← List.map_take, List.take_length, hd, Int.toNat_one, Int.toNat_natCast, am, simprocAttr, tys]
          refine ⟨Int.le_refl _, ?_⟩
          refine ACallD.of (cloneB r (by omega)) (by kernel_rfl) [] [] rfl (by simp) (by simp) (by simp) (by simp) (by repeat' (first | exact trivial | exact .inl rfl | exact .inr rfl | exact .inr ⟨rfl, rfl, rfl, by simp; done⟩ | exact .inr ⟨rfl, by simp; done⟩ | exact .inr ⟨rfl, rfl, by simp; done⟩ | apply And.intro)) (by repeat' (first | exact trivial | rfl | exact (tkC_ren.1 _ _).symm | (simp; done) | apply And.intro)) (by first | exact .inl rfl | (refine .inr ⟨trivial, ?_⟩; first | (intro row h; rcases List.mem_singleton.1 h with rfl; exact nvB _) | (intro row h; cases h; done) | (simp; done)) | (refine .inr ⟨by simp [nvP, nvP.nvPs, nvD, nilS, errno], ?_⟩; first | (intro row h; rcases List.mem_singleton.1 h with rfl; exact nvB _) | (intro row h; cases h; done) | (simp [nvRow, nvD, nvP]; done))) rfl rfl rfl rfl ?_
          simp only [byts, e1, d1, e3, d3, e4, d4, am, simprocAttr, tys]
          refine ⟨by kernel_rfl, ?_⟩
          refine ACall.of (cT) [] [] rfl (by simp) (by simp) (by simp) (by repeat' (first | exact trivial | exact .inl rfl | exact .inr rfl | exact .inr ⟨rfl, rfl, rfl, by simp; done⟩ | exact .inr ⟨rfl, by simp; done⟩ | exact .inr ⟨rfl, rfl, by simp; done⟩ | apply And.intro)) (by repeat' (first | exact trivial | rfl | exact (tkC_ren.1 _ _).symm | (simp; done) | apply And.intro)) (by first | exact .inl rfl | (refine .inr ⟨trivial, ?_⟩; first | (intro row h; rcases List.mem_singleton.1 h with rfl; exact nvB _) | (intro row h; cases h; done) | (simp; done)) | (refine .inr ⟨by simp [nvP, nvP.nvPs, nvD, nilS, errno], ?_⟩; first | (intro row h; rcases List.mem_singleton.1 h with rfl; exact nvB _) | (intro row h; cases h; done) | (simp [nvRow, nvD, nvP]; done))) ?_
          simp only [takeAR, byts, errno, FinR, evRes, evRVs, evRV, am, simprocAttr, tys]
          exact ⟨_, [], [], rfl, Ent.plain rfl rfl rfl trivial rfl, rfl, rfl⟩
      · have d4 : decide (c = 4) = false := decide_eq_false k4
        by_cases k2 : c = 2
        · have d2 : decide (c = 2) = true := decide_eq_true k2
          refine hok (c, [], (0, 0, ()), [], ()) r [.lit (.int .u8 c.toNat), nlD, i64D 0, i64D 0, nlD] (by unfold takeK; rw [if_neg k1, if_neg k3, if_neg k4, if_pos k2]) ⟨.inl rfl, .inr ⟨rfl, 2, rfl⟩, .inl rfl, .inl rfl, .inr ⟨rfl, 3, rfl⟩, trivial⟩ ?_
          generalize (c :: r : List UInt8) = bb at *
          refine AFun.of_walk hP Try.func66 rfl rfl rfl (by simp) rfl ?_
          simp only [Try.f66, byts, hE, hI, hI1, h0, encB, Int.toNat_zero, ← List.map_drop, ← List.map_take, List.take_length, hd, Int.toNat_one, Int.toNat_natCast, am, simprocAttr, tys]
          refine ⟨Int.le_refl _, ?_⟩
          refine ACallD.of (cloneB r (by omega)) (by kernel_rfl) [] [] rfl (by simp) (by simp) (by simp) (by simp) (by repeat' (first | exact trivial | exact .inl rfl | exact .inr rfl | exact .inr ⟨rfl, rfl, rfl, by simp; done⟩ | exact .inr ⟨rfl, by simp; done⟩ | exact .inr ⟨rfl, rfl, by simp; done⟩ | apply And.intro)) (by repeat' (first | exact trivial | rfl | exact (tkC_ren.1 _ _).symm | (simp; done) | apply And.intro)) (by first | exact .inl rfl | (refine .inr ⟨trivial, ?_⟩; first | (intro row h; rcases List.mem_singleton.1 h with rfl; exact nvB _) | (intro row h; cases h; done) | (simp; done)) | (refine .inr ⟨by simp [nvP, nvP.nvPs, nvD, nilS, errno], ?_⟩; first | (intro row h; rcases List.mem_singleton.1 h with rfl; exact nvB _) | (intro row h; cases h; done) | (simp [nvRow, nvD, nvP]; done))) rfl rfl rfl rfl ?_
          simp only [byts, nilS, errno, e1, d1, e3, d3, e4, d4, e2, d2, FinR, evRes, evRVs, evRV, am, simprocAttr, tys]
          exact ⟨by kernel_rfl, ⟨_, [], [], rfl, Ent.plain rfl rfl rfl trivial rfl, rfl, rfl⟩⟩
        · have d2 : decide (c = 2) = false := decide_eq_false k2
          refine hfail2 (by unfold takeK; rw [if_neg k1, if_neg k3, if_neg k4, if_neg k2]) ?_
          generalize (c :: r : List UInt8) = bb at *
          refine AFun.of_walk hP Try.func66 rfl rfl rfl (by simp) rfl ?_
          simp only [Try.f66, byts, hE, hI, hI1, h0, encB, Int.toNat_zero, ← List.map_drop, ← List.map_take, List.take_length, hd, Int.toNat_one, Int.toNat_natCast, am, simprocAttr, tys]
          refine ⟨Int.le_refl _, ?_⟩
          refine ACallD.of (cloneB r (by omega)) (by kernel_rfl) [] [] rfl (by simp) (by simp) (by simp) (by simp) (by repeat' (first | exact trivial | exact .inl rfl | exact .inr rfl | exact .inr ⟨rfl, rfl, rfl, by simp; done⟩ | exact .inr ⟨rfl, by simp; done⟩ | exact .inr ⟨rfl, rfl, by simp; done⟩ | apply And.intro)) (by repeat' (first | exact trivial | rfl | exact (tkC_ren.1 _ _).symm | (simp; done) | apply And.intro)) (by first | exact .inl rfl | (refine .inr ⟨trivial, ?_⟩; first | (intro row h; rcases List.mem_singleton.1 h with rfl; exact nvB _) | (intro row h; cases h; done) | (simp; done)) | (refine .inr ⟨by simp [nvP, nvP.nvPs, nvD, nilS, errno], ?_⟩; first | (intro row h; rcases List.mem_singleton.1 h with rfl; exact nvB _) | (intro row h; cases h; done) | (simp [nvRow, nvD, nvP]; done))) rfl rfl rfl rfl ?_
          simp only [byts, nilS, errno, e1, d1, e3, d3, e4, d4, e2, d2, FinR, evRes, evRVs, evRV, am, simprocAttr, tys]
          exact ⟨by kernel_rfl, ⟨_, [], [], rfl, Ent.plain rfl rfl rfl trivial rfl, rfl, rfl⟩⟩

theorem opTake (b : List UInt8) (hl : b.length ≤ 10000000) : AFun Try.prog 66 [byts b] [] (takeOR (takeO b)) [] := by
  rcases b with _ | ⟨c, r⟩
  · exact AFun.cle opTakeE ⟨.inl rfl, .inr ⟨rfl, 2, rfl⟩, .inl rfl, .inl rfl, .inr ⟨rfl, 3, rfl⟩, trivial⟩
  · exact opTakeC c r (by simp at hl; omega)
end Go.Proofs.Ytflpphgccjlkjaa

set_option linter.unusedSimpArgs false
set_option linter.unusedVariables false
namespace Go.Proofs.Ytflpphgccjlkjaa
open Go Go.AM

theorem takeNum_lebI (n : Int) (h : I64 n) (r : List UInt8) : takeNum (lebI n ++ r) = some (fold n, r) := takeNum_leb _ _ (fold_lt n h)
theorem lebI_unfold (u : Nat) : lebI (unfold' u) = leb u := by unfold lebI; rw [fold_unfold]
theorem opt_eta (o : OpT) (l : List Lab) (p q : Int) (a : List Ask) (h1 : o.2.1 = l) (h2 : o.2.2.1.1 = p) (h3 : o.2.2.1.2.1 = q) (h4 : o.2.2.2.1 = a) : o = (o.1, l, (p, q, ()), a, ()) := by
  obtain ⟨k, l', ⟨p', q', ⟨⟩⟩, a', ⟨⟩⟩ := o
  simp only at h1 h2 h3 h4
  rw [h1, h2, h3, h4]
theorem takeO_put (o : OpT) (ho : FitI o) (h : rightO o = true) (x : List UInt8) : takeO (putO o ++ x) = some (o, x) := by
  have e : takeO (putO o ++ x) = takeK o.1 ((if o.1 = 1 then putLb o.2.1 ++ lebI o.2.2.1.1 ++ lebI o.2.2.1.2.1 else if o.1 = 3 then lebI o.2.2.1.1 else if o.1 = 4 then putA o.2.2.2.1 else []) ++ x) := rfl
  rw [e]
  unfold rightO at h
  unfold takeK
  by_cases k1 : o.1 = 1
  · rw [if_pos k1] at h
    simp only [Bool.and_eq_true] at h
    simp only [if_pos k1, List.append_assoc, takeLb_put _ _ h.1, takeNum_lebI _ ho.p1, takeNum_lebI _ ho.p2, unfold_fold]
    rw [← opt_eta o o.2.1 _ _ [] rfl rfl rfl (noA_nil h.2)]
  · rw [if_neg k1] at h
    by_cases k4 : o.1 = 4
    · have k3 : ¬ o.1 = 3 := by rw [k4]; decide
      rw [if_pos k4] at h
      simp only [Bool.and_eq_true, z1, z2, beq_iff_eq] at h
      simp only [if_neg k1, if_neg k3, if_pos k4, takeA_put _ _ h.1]
      rw [← opt_eta o [] 0 0 _ (noL_nil h.2.1) h.2.2.1 h.2.2.2 rfl]
    · rw [if_neg k4] at h
      by_cases k3 : o.1 = 3
      · rw [if_pos k3] at h
        simp only [Bool.and_eq_true, z2, beq_iff_eq] at h
        simp only [if_neg k1, if_pos k3, takeNum_lebI _ ho.p1, unfold_fold]
        rw [← opt_eta o [] _ 0 [] (noL_nil h.1) rfl h.2.2 (noA_nil h.2.1)]
      · rw [if_neg k3] at h
        by_cases k2 : o.1 = 2
        · rw [if_pos k2] at h
          simp only [Bool.and_eq_true, z1, z2, beq_iff_eq] at h
          simp only [if_neg k1, if_neg k3, if_neg k4, if_pos k2, List.nil_append]
          rw [← opt_eta o [] 0 0 [] (noL_nil h.1) h.2.2.1 h.2.2.2 (noA_nil h.2.1)]
        · rw [if_neg k2] at h; cases h
theorem i64_0 : I64 0 := ⟨by decide, by decide⟩
theorem fit_of {o : OpT} (h : rightO o = true) (h1 : I64 o.2.2.1.1) (h2 : I64 o.2.2.1.2.1) : FitI o := by
  unfold rightO at h
  by_cases k1 : o.1 = 1
  · rw [if_pos k1] at h
    simp only [Bool.and_eq_true] at h
    obtain ⟨g1, _, g2⟩ := rightL_len h.1
    exact ⟨⟨by omega, by rw [noA_nil h.2]; simp, fun x hx => by have := g2 x hx; omega, fun x hx => by rw [noA_nil h.2] at hx; cases hx⟩, h1, h2⟩
  · rw [if_neg k1] at h
    by_cases k4 : o.1 = 4
    · rw [if_pos k4] at h
      simp only [Bool.and_eq_true] at h
      obtain ⟨g1, g2⟩ := rightA_len h.1
      exact ⟨⟨by rw [noL_nil h.2.1]; simp, by omega, fun x hx => (by rw [noL_nil h.2.1] at hx; cases hx), fun x hx => by have := (mayOk_len (g2 x hx)).1; omega⟩, h1, h2⟩
    · rw [if_neg k4] at h
      have hh : noL o = true ∧ noA o = true := by
        by_cases k3 : o.1 = 3
        · rw [if_pos k3] at h; simp only [Bool.and_eq_true] at h; exact ⟨h.1, h.2.1⟩
        · rw [if_neg k3] at h
          by_cases k2 : o.1 = 2
          · rw [if_pos k2] at h; simp only [Bool.and_eq_true] at h; exact ⟨h.1, h.2.1⟩
          · rw [if_neg k2] at h; cases h
      exact ⟨⟨by rw [noL_nil hh.1]; simp, by rw [noA_nil hh.2]; simp, fun x hx => (by rw [noL_nil hh.1] at hx; cases hx), fun x hx => (by rw [noA_nil hh.2] at hx; cases hx)⟩, h1, h2⟩
theorem takeO_some {b : List UInt8} {o : OpT} {r : List UInt8} (h : takeO b = some (o, r)) : rightO o = true ∧ b = putO o ++ r ∧ FitI o := by
  have key : rightO o = true ∧ b = putO o ++ r ∧ I64 o.2.2.1.1 ∧ I64 o.2.2.1.2.1 := by
    rcases b with _ | ⟨c, t⟩
    · cases h
    · have h : takeK c t = some (o, r) := h
      unfold takeK at h
      by_cases k1 : c = 1
      · rw [if_pos k1] at h
        split at h
        · cases h
        · rename_i l r1 hk
          split at h
          · cases h
          · rename_i u r2 hn1
            split at h
            · cases h
            · rename_i u2 r3 hn2
              simp only [Option.some.injEq, Prod.mk.injEq] at h
              obtain ⟨rfl, rfl⟩ := h
              obtain ⟨a1, a2⟩ := takeLb_some hk
              obtain ⟨b1, b2⟩ := takeNum_some hn1
              obtain ⟨c1, c2⟩ := takeNum_some hn2
              refine ⟨by unfold rightO noA; simp [k1, a1], ?_, unfold_I64 _ b1, unfold_I64 _ c1⟩
              unfold putO
              simp only [if_pos k1, lebI_unfold, List.cons_append, List.append_assoc]
              rw [a2, b2, c2]
      · rw [if_neg k1] at h
        by_cases k3 : c = 3
        · rw [if_pos k3] at h
          split at h
          · cases h
          · rename_i u r1 hn1
            simp only [Option.some.injEq, Prod.mk.injEq] at h
            obtain ⟨rfl, rfl⟩ := h
            obtain ⟨b1, b2⟩ := takeNum_some hn1
            refine ⟨by unfold rightO noA noL z2; simp [k3], ?_, unfold_I64 _ b1, i64_0⟩
            unfold putO
            simp only [if_neg k1, if_pos k3, lebI_unfold, List.cons_append]
            rw [b2]
        · rw [if_neg k3] at h
          by_cases k4 : c = 4
          · rw [if_pos k4] at h
            split at h
            · cases h
            · rename_i l r1 hk
              simp only [Option.some.injEq, Prod.mk.injEq] at h
              obtain ⟨rfl, rfl⟩ := h
              obtain ⟨a1, a2⟩ := takeA_some hk
              refine ⟨by unfold rightO noL z1 z2; simp [k4, a1], ?_, i64_0, i64_0⟩
              unfold putO
              simp only [if_neg k1, if_neg k3, if_pos k4, List.cons_append]
              rw [a2]
          · rw [if_neg k4] at h
            by_cases k2 : c = 2
            · rw [if_pos k2] at h
              simp only [Option.some.injEq, Prod.mk.injEq] at h
              obtain ⟨rfl, rfl⟩ := h
              refine ⟨by unfold rightO noL noA z1 z2; simp [k2], ?_, i64_0, i64_0⟩
              unfold putO
              simp only [if_neg k1, if_neg k3, if_neg k4, List.cons_append, List.nil_append]
            · rw [if_neg k2] at h; cases h
  exact ⟨key.1, key.2.1, fit_of key.1 key.2.2.1 key.2.2.2⟩
end Go.Proofs.Ytflpphgccjlkjaa

set_option linter.unusedSimpArgs false
set_option linter.unusedVariables false
namespace Go.Proofs.Ytflpphgccjlkjaa
open Go Go.AM

/-! ## notes -/
abbrev EntT := Int × Int × OpT × Unit
def encE (e : EntT) : List DV := [.lit (.int .i64 e.1), .lit (.int .i64 e.2.1), .lit (.int .u8 e.2.2.1.1.toNat), .sl 2 (e.2.2.1.2.1.map encL), .lit (.int .i64 e.2.2.1.2.2.1.1), .lit (.int .i64 e.2.2.1.2.2.1.2.1), .sl 3 (e.2.2.1.2.2.2.1.map encA)]
structure NT where
  k : UInt8
  f : Int
  t : Int
  v : Int
  n : Int
  i : Int
  s : Int
  ld : Bool
  l0 : Int
  l1 : Int
  l2 : Int
  l3 : Int
  l4 : Int
  l5 : Int
  l6 : Int
  log : List EntT
def encN (x : NT) : List DV := [.lit (.int .u8 x.k.toNat), .lit (.int .i64 x.f), .lit (.int .i64 x.t), .lit (.int .i64 x.v), .lit (.int .i64 x.n), .lit (.int .i64 x.i), .lit (.int .i64 x.s), .lit (.bool x.ld),
  .lit (.int .i64 x.l0), .lit (.int .i64 x.l1), .lit (.int .i64 x.l2), .lit (.int .i64 x.l3), .lit (.int .i64 x.l4), .lit (.int .i64 x.l5), .lit (.int .i64 x.l6), .sl 7 (x.log.map encE)]
def encZ (n : Int) : List DV := [.lit (.int .i64 n)]

def outB (least n : Int) : Bool := decide (n < least) || decide (1099511627776 < n)
def fitsB (least : Int) (l : List Int) : Bool := !(l.any (outB least))
def placeB (n : Int) : Bool := decide (0 ≤ n) && decide (n < 7)
def mayE (e : EntT) : Bool := decide (0 ≤ e.1) && (decide (e.1 < 8) && (fitsB 1 [e.2.1] && rightO e.2.2.1))
def headN (x : NT) : Bool := !(decide ((x.k.toNat : Int) < 1)) && (!(decide (6 < (x.k.toNat : Int))) && (placeB x.f && (placeB x.t && !(x.f == x.t))))
def numsN (x : NT) : Bool := fitsB 0 [x.v, x.n, x.i, x.s] && (fitsB 0 [x.l0, x.l1, x.l2, x.l3, x.l4, x.l5, x.l6] && !(decide (300 < (x.log.length : Int))))
def rightN (x : NT) : Bool := headN x && (numsN x && x.log.all mayE)
def FitE (e : EntT) : Prop := I64 e.1 ∧ I64 e.2.1 ∧ FitI e.2.2.1
structure FitN (x : NT) : Prop where
  hl : x.log.length ≤ 9223372036854775807
  he : ∀ e ∈ x.log, FitE e

/-! ### whether numbers fit -/
theorem fits1 (least n : Int) : AFun Try.prog 59 [int n, .ptr 0 0] [.box [int least]] (bool (outB least n)) [.box [int least]] := by
  refine AFun.of_walk hP Try.func59 rfl rfl rfl (by simp) rfl ?_
  unfold outB
  rcases h : decide (n < least) with _ | _
  · simp only [Try.f59, int, bool, h, Bool.false_or, FinR, evRes, evRVs, evRV, am, simprocAttr, tys]
    exact ⟨_, [], [0], rfl, ⟨rfl, rfl, by simp, (fun i hi => .inr ((by decide : ∀ i, i < 1 → ([0] : List Nat).getD i 0 = i) i hi)), trivial, ⟨.inr ⟨by decide, rfl⟩, trivial⟩, rfl, by decide, rfl, (by first | rfl | simp [scRow, tkC_scs])⟩, rfl, rfl⟩
  · simp only [Try.f59, int, bool, h, Bool.true_or, FinR, evRes, evRVs, evRV, am, simprocAttr, tys]
    exact ⟨_, [], [0], rfl, ⟨rfl, rfl, by simp, (fun i hi => .inr ((by decide : ∀ i, i < 1 → ([0] : List Nat).getD i 0 = i) i hi)), trivial, ⟨.inr ⟨by decide, rfl⟩, trivial⟩, rfl, by decide, rfl, (by first | rfl | simp [scRow, tkC_scs])⟩, rfl, rfl⟩

theorem indexI (l : List Int) (least : Int) (hl : l.length ≤ 9223372036854775807) :
    AFun Try.prog 81 [.d (.sl 1 (l.map encZ)), .clo (.func 59) [] [.ptr 0 0]] [.box [int least]] (int (ixI (l.findIdx? (outB least)))) [.box [int least]] := by
  refine AFun.of_walk hP Try.func81 rfl rfl rfl (by simp) rfl ?_
  simp only [Try.f81, int, am, simprocAttr, tys]
  refine ALoopW.intro 19 1 (ι := { i : Nat // i ≤ l.length ∧ (l.take i).findIdx? (outB least) = none }) (fun i => [(0, .d (.sl 1 (l.map encZ))), (1, .clo (.func 59) [] [.ptr 0 0]), (6, .d (.sl 1 (l.map encZ))), (7, int l.length), (8, int i.1)]) (fun _ => [.box [int least]]) (fun i => l.length - i.1) ⟨0, by omega, by simp⟩ [] [0] ?_ (fun ⟨i, hi, hfd⟩ => ?_)
  · exact ⟨rfl, rfl, by simp, (fun i hi => .inr ((by decide : ∀ i, i < 1 → ([0] : List Nat).getD i 0 = i) i hi)), ⟨.inr rfl, .inr rfl, .inr rfl, .inr rfl, .inr rfl, trivial⟩, ⟨.inr ⟨by decide, rfl⟩, trivial⟩, rfl, by decide, rfl, (by first | rfl | simp [scRow, tkC_scs])⟩
  simp only
  rcases Nat.lt_or_ge i l.length with hlt | hge
  · have hb : l[i]? = some l[i] := List.getElem?_eq_getElem hlt
    have hlt2 : ((i : Int) < l.length) := by omega
    have hst : (l.take (i + 1)).findIdx? (outB least) = if outB least l[i] = true then some i else none := by
      rw [List.take_succ_eq_append_getElem hlt, List.findIdx?_append, hfd]
      simp [List.findIdx?_cons, Nat.min_eq_left (Nat.le_of_lt hlt)]
    have e1 : IntKind.i64.wrap ((i : Int) + 1) = ((i + 1 : Nat) : Int) := by rw [IntWalk.i64_in _ (by omega)]; simp
    simp only [int, hb, hlt2, encZ, Int.natCast_nonneg, am, simprocAttr, tys]
    refine ACall.of (fits1 least l[i]) [0] [] rfl (by simp) (by simp) (by simp) (by repeat' (first | exact trivial | exact .inl rfl | exact .inr rfl | exact .inr ⟨rfl, rfl, rfl, by simp; done⟩ | exact .inr ⟨rfl, by simp; done⟩ | exact .inr ⟨rfl, rfl, by simp; done⟩ | apply And.intro)) (by repeat' (first | exact trivial | rfl | exact (tkC_ren.1 _ _).symm | (simp; done) | apply And.intro)) (by first | exact .inl rfl | (refine .inr ⟨trivial, ?_⟩; first | (intro row h; rcases List.mem_singleton.1 h with rfl; exact nvB _) | (intro row h; cases h; done) | (simp; done)) | (refine .inr ⟨by simp [nvP, nvP.nvPs, nvD, nilS, errno], ?_⟩; first | (intro row h; rcases List.mem_singleton.1 h with rfl; exact nvB _) | (intro row h; cases h; done) | (simp [nvRow, nvD, nvP]; done))) ?_
    rcases hp : outB least l[i] with _ | _
    · rw [hp] at hst
      simp only [bool, e1, am, simprocAttr, tys]
      exact ⟨⟨i + 1, by omega, by simpa using hst⟩, [], [0], ⟨rfl, rfl, by simp, (fun i hi => .inr ((by decide : ∀ i, i < 1 → ([0] : List Nat).getD i 0 = i) i hi)), ⟨.inr rfl, .inr rfl, .inr rfl, .inr rfl, .inr rfl, trivial⟩, ⟨.inr ⟨by decide, rfl⟩, trivial⟩, rfl, by decide, rfl, (by first | rfl | simp [scRow, tkC_scs])⟩, by show l.length - (i + 1) < l.length - i; omega⟩
    · rw [hp] at hst
      have hfull : l.findIdx? (outB least) = some i := by
        conv => lhs; rw [← List.take_append_drop (i + 1) l]
        rw [List.findIdx?_append, hst]; rfl
      simp only [bool, hfull, ixI, int, FinR, evRes, evRVs, evRV, am, simprocAttr, tys]
      exact ⟨_, [], [0], rfl, ⟨rfl, rfl, by simp, (fun i hi => .inr ((by decide : ∀ i, i < 1 → ([0] : List Nat).getD i 0 = i) i hi)), trivial, ⟨.inr ⟨by decide, rfl⟩, trivial⟩, rfl, by decide, rfl, (by first | rfl | simp [scRow, tkC_scs])⟩, rfl, rfl⟩
  · have hlt2 : ¬ ((i : Int) < l.length) := by omega
    have hi' : i = l.length := by omega
    subst hi'
    rw [List.take_length] at hfd
    simp only [int, hlt2, hfd, ixI, FinR, evRes, evRVs, evRV, am, simprocAttr, tys]
    exact ⟨_, [], [0], rfl, ⟨rfl, rfl, by simp, (fun i hi => .inr ((by decide : ∀ i, i < 1 → ([0] : List Nat).getD i 0 = i) i hi)), trivial, ⟨.inr ⟨by decide, rfl⟩, trivial⟩, rfl, by decide, rfl, (by first | rfl | simp [scRow, tkC_scs])⟩, rfl, rfl⟩

theorem containsI (l : List Int) (least : Int) (hl : l.length ≤ 9223372036854775807) :
    AFun Try.prog 58 [.d (.sl 1 (l.map encZ)), .clo (.func 59) [] [.ptr 0 0]] [.box [int least]] (bool (l.any (outB least))) [.box [int least]] := by
  refine AFun.of_walk hP Try.func58 rfl rfl rfl (by simp) rfl ?_
  simp only [Try.f58, int, am, simprocAttr, tys]
  refine ACall.of (indexI l least hl) [0] [] rfl (by simp) (by simp) (by simp) (by repeat' (first | exact trivial | exact .inl rfl | exact .inr rfl | exact .inr ⟨rfl, rfl, rfl, by simp; done⟩ | exact .inr ⟨rfl, by simp; done⟩ | exact .inr ⟨rfl, rfl, by simp; done⟩ | apply And.intro)) (by repeat' (first | exact trivial | rfl | exact (tkC_ren.1 _ _).symm | (simp; done) | apply And.intro)) (by first | exact .inl rfl | (refine .inr ⟨trivial, ?_⟩; first | (intro row h; rcases List.mem_singleton.1 h with rfl; exact nvB _) | (intro row h; cases h; done) | (simp; done)) | (refine .inr ⟨by simp [nvP, nvP.nvPs, nvD, nilS, errno], ?_⟩; first | (intro row h; rcases List.mem_singleton.1 h with rfl; exact nvB _) | (intro row h; cases h; done) | (simp [nvRow, nvD, nvP]; done))) ?_
  simp only [int, bool, findIdx_any, FinR, evRes, evRVs, evRV, am, simprocAttr, tys]
  exact ⟨_, [], [0], rfl, ⟨rfl, rfl, by simp, (fun i hi => .inr ((by decide : ∀ i, i < 1 → ([0] : List Nat).getD i 0 = i) i hi)), trivial, ⟨.inr ⟨by decide, rfl⟩, trivial⟩, rfl, by decide, rfl, (by first | rfl | simp [scRow, tkC_scs])⟩, rfl, rfl⟩

theorem noteFits (least : Int) (l : List Int) (hl : l.length ≤ 9223372036854775807) : AFun Try.prog 31 [int least, .d (.sl 1 (l.map encZ))] [] (bool (fitsB least l)) [] := by
  refine AFun.of_walk hP Try.func31 rfl rfl rfl (by simp) rfl ?_
  simp only [Try.f31, int, am, simprocAttr, tys]
  refine ACall.of (containsI l least hl) [0] [] rfl (by simp) (by simp) (by simp) (by repeat' (first | exact trivial | exact .inl rfl | exact .inr rfl | exact .inr ⟨rfl, rfl, rfl, by simp; done⟩ | exact .inr ⟨rfl, by simp; done⟩ | exact .inr ⟨rfl, rfl, by simp; done⟩ | apply And.intro)) (by repeat' (first | exact trivial | rfl | exact (tkC_ren.1 _ _).symm | (simp; done) | apply And.intro)) (by first | exact .inl rfl | (refine .inr ⟨trivial, ?_⟩; first | (intro row h; rcases List.mem_singleton.1 h with rfl; exact nvB _) | (intro row h; cases h; done) | (simp; done)) | (refine .inr ⟨by simp [nvP, nvP.nvPs, nvD, nilS, errno], ?_⟩; first | (intro row h; rcases List.mem_singleton.1 h with rfl; exact nvB _) | (intro row h; cases h; done) | (simp [nvRow, nvD, nvP]; done))) ?_
  simp only [bool, fitsB, FinR, evRes, evRVs, evRV, am, simprocAttr, tys]
  exact ⟨_, [], [], rfl, Ent.plain rfl rfl rfl trivial rfl, rfl, rfl⟩

theorem notePlace (n : Int) : AFun Try.prog 30 [int n] [] (bool (placeB n)) [] := by
  refine AFun.of_walk hP Try.func30 rfl rfl rfl (by simp) rfl ?_
  unfold placeB
  rcases h : decide (0 ≤ n) with _ | _
  · simp only [Try.f30, int, bool, h, Bool.false_and, FinR, evRes, evRVs, evRV, am, simprocAttr, tys]
    exact ⟨_, [], [], rfl, Ent.plain rfl rfl rfl trivial rfl, rfl, rfl⟩
  · simp only [Try.f30, int, bool, h, Bool.true_and, FinR, evRes, evRVs, evRV, am, simprocAttr, tys]
    exact ⟨_, [], [], rfl, Ent.plain rfl rfl rfl trivial rfl, rfl, rfl⟩
end Go.Proofs.Ytflpphgccjlkjaa

set_option linter.unusedSimpArgs false
set_option linter.unusedVariables false
namespace Go.Proofs.Ytflpphgccjlkjaa
open Go Go.AM

theorem noteMay (e : EntT) (h : FitE e) : AFun Try.prog 34 [.d (.agg (encE e))] [] (bool (mayE e)) [] := by
  refine AFun.of_walk hP Try.func34 rfl rfl rfl (by simp) rfl ?_
  have cR := opRight e.2.2.1 h.2.2.toFit
  simp only [encO] at cR
  unfold mayE
  rcases h0 : decide (0 ≤ e.1) with _ | _
  · simp only [Try.f34, encE, bool, h0, Bool.false_and, FinR, evRes, evRVs, evRV, am, simprocAttr, tys]
    exact ⟨_, [], [], rfl, Ent.plain rfl rfl rfl trivial rfl, rfl, rfl⟩
  rcases h1 : decide (e.1 < 8) with _ | _
  · simp only [Try.f34, encE, bool, h0, h1, Bool.false_and, Bool.true_and, FinR, evRes, evRVs, evRV, am, simprocAttr, tys]
    exact ⟨_, [], [], rfl, Ent.plain rfl rfl rfl trivial rfl, rfl, rfl⟩
  simp only [Try.f34, encE, h0, h1, Bool.true_and, am, simprocAttr, tys]
  refine ACall.of (noteFits 1 [e.2.1] (by simp)) [] [1] rfl (by simp) (by simp) (by simp) (by repeat' (first | exact trivial | exact .inl rfl | exact .inr rfl | exact .inr ⟨rfl, rfl, rfl, by simp; done⟩ | exact .inr ⟨rfl, by simp; done⟩ | exact .inr ⟨rfl, rfl, by simp; done⟩ | apply And.intro)) (by repeat' (first | exact trivial | rfl | exact (tkC_ren.1 _ _).symm | (simp; done) | apply And.intro)) (by first | exact .inl rfl | (refine .inr ⟨trivial, ?_⟩; first | (intro row h; rcases List.mem_singleton.1 h with rfl; exact nvB _) | (intro row h; cases h; done) | (simp; done)) | (refine .inr ⟨by simp [nvP, nvP.nvPs, nvD, nilS, errno], ?_⟩; first | (intro row h; rcases List.mem_singleton.1 h with rfl; exact nvB _) | (intro row h; cases h; done) | (simp [nvRow, nvD, nvP]; done))) ?_
  rcases h2 : fitsB 1 [e.2.1] with _ | _
  · simp only [bool, Bool.false_and, FinR, evRes, evRVs, evRV, am, simprocAttr, tys]
    exact ⟨_, [], [], rfl, Ent.plain rfl rfl rfl trivial rfl, rfl, rfl⟩
  · simp only [bool, Bool.true_and, am, simprocAttr, tys]
    refine ACall.of (cR) [] [] rfl (by simp) (by simp) (by simp) (by repeat' (first | exact trivial | exact .inl rfl | exact .inr rfl | exact .inr ⟨rfl, rfl, rfl, by simp; done⟩ | exact .inr ⟨rfl, by simp; done⟩ | exact .inr ⟨rfl, rfl, by simp; done⟩ | apply And.intro)) (by repeat' (first | exact trivial | rfl | exact (tkC_ren.1 _ _).symm | (simp; done) | apply And.intro)) (by first | exact .inl rfl | (refine .inr ⟨trivial, ?_⟩; first | (intro row h; rcases List.mem_singleton.1 h with rfl; exact nvB _) | (intro row h; cases h; done) | (simp; done)) | (refine .inr ⟨by simp [nvP, nvP.nvPs, nvD, nilS, errno], ?_⟩; first | (intro row h; rcases List.mem_singleton.1 h with rfl; exact nvB _) | (intro row h; cases h; done) | (simp [nvRow, nvD, nvP]; done))) ?_
    simp only [bool, FinR, evRes, evRVs, evRV, am, simprocAttr, tys]
    exact ⟨_, [], [], rfl, Ent.plain rfl rfl rfl trivial rfl, rfl, rfl⟩

theorem noteRight1 (e : EntT) (h : FitE e) : AFun Try.prog 33 [.d (.agg (encE e))] [] (bool (!(mayE e))) [] := by
  refine AFun.of_walk hP Try.func33 rfl rfl rfl (by simp) rfl ?_
  have c := noteMay e h
  simp only [encE] at c
  simp only [Try.f33, encE, am, simprocAttr, tys]
  refine ACall.of (c) [] [] rfl (by simp) (by simp) (by simp) (by repeat' (first | exact trivial | exact .inl rfl | exact .inr rfl | exact .inr ⟨rfl, rfl, rfl, by simp; done⟩ | exact .inr ⟨rfl, by simp; done⟩ | exact .inr ⟨rfl, rfl, by simp; done⟩ | apply And.intro)) (by repeat' (first | exact trivial | rfl | exact (tkC_ren.1 _ _).symm | (simp; done) | apply And.intro)) (by first | exact .inl rfl | (refine .inr ⟨trivial, ?_⟩; first | (intro row h; rcases List.mem_singleton.1 h with rfl; exact nvB _) | (intro row h; cases h; done) | (simp; done)) | (refine .inr ⟨by simp [nvP, nvP.nvPs, nvD, nilS, errno], ?_⟩; first | (intro row h; rcases List.mem_singleton.1 h with rfl; exact nvB _) | (intro row h; cases h; done) | (simp [nvRow, nvD, nvP]; done))) ?_
  simp only [bool, FinR, evRes, evRVs, evRV, am, simprocAttr, tys]
  exact ⟨_, [], [], rfl, Ent.plain rfl rfl rfl trivial rfl, rfl, rfl⟩

theorem indexE (l : List EntT) (p : EntT → Bool) (f : Nat) (hl : l.length ≤ 9223372036854775807) (hf : isFn Try.prog f = true)
    (hc : ∀ a ∈ l, AFun Try.prog f [.d (.agg (encE a))] [] (bool (p a)) []) :
    AFun Try.prog 60 [.d (.sl 7 (l.map encE)), .clo (.func f) [] []] [] (int (ixI (l.findIdx? p))) [] := by
  refine AFun.of_walk hP Try.func60 rfl rfl rfl (by simp) rfl ?_
  simp only [Try.f60, am, simprocAttr, tys]
  refine ALoopW.intro 19 0 (ι := { i : Nat // i ≤ l.length ∧ (l.take i).findIdx? p = none }) (fun i => [(0, .d (.sl 7 (l.map encE))), (1, .clo (.func f) [] []), (6, .d (.sl 7 (l.map encE))), (7, .d (.lit (.int .i64 l.length))), (8, .d (.lit (.int .i64 i.1)))]) (fun _ => []) (fun i => l.length - i.1) ⟨0, by omega, by simp⟩ [] [] ?_ (fun ⟨i, hi, hfd⟩ => ?_)
  · exact Ent.plain rfl rfl rfl (⟨.inr rfl, .inr rfl, .inr rfl, .inr rfl, .inr rfl, trivial⟩) rfl
  rcases Nat.lt_or_ge i l.length with hlt | hge
  · have hb : l[i]? = some l[i] := List.getElem?_eq_getElem hlt
    have hlt2 : ((i : Int) < l.length) := by omega
    have hst : (l.take (i + 1)).findIdx? p = if p l[i] = true then some i else none := by
      rw [List.take_succ_eq_append_getElem hlt, List.findIdx?_append, hfd]
      simp [List.findIdx?_cons, Nat.min_eq_left (Nat.le_of_lt hlt)]
    have e1 : IntKind.i64.wrap ((i : Int) + 1) = ((i + 1 : Nat) : Int) := by rw [IntWalk.i64_in _ (by omega)]; simp
    have hcc := hc l[i] (List.getElem_mem hlt)
    simp only [encE] at hcc
    simp only [hb, hlt2, encE, Int.natCast_nonneg, hf, am, simprocAttr, tys]
    refine ACall.of (hcc) [] [] rfl (by simp) (by simp) (by simp) (by repeat' (first | exact trivial | exact .inl rfl | exact .inr rfl | exact .inr ⟨rfl, rfl, rfl, by simp; done⟩ | exact .inr ⟨rfl, by simp; done⟩ | exact .inr ⟨rfl, rfl, by simp; done⟩ | apply And.intro)) (by repeat' (first | exact trivial | rfl | exact (tkC_ren.1 _ _).symm | (simp; done) | apply And.intro)) (by first | exact .inl rfl | (refine .inr ⟨trivial, ?_⟩; first | (intro row h; rcases List.mem_singleton.1 h with rfl; exact nvB _) | (intro row h; cases h; done) | (simp; done)) | (refine .inr ⟨by simp [nvP, nvP.nvPs, nvD, nilS, errno], ?_⟩; first | (intro row h; rcases List.mem_singleton.1 h with rfl; exact nvB _) | (intro row h; cases h; done) | (simp [nvRow, nvD, nvP]; done))) ?_
    rcases hp : p l[i] with _ | _
    · rw [hp] at hst
      simp only [bool, e1, am, simprocAttr, tys]
      exact ⟨⟨i + 1, by omega, by simpa using hst⟩, [], [], Ent.plain rfl rfl rfl (⟨.inr rfl, .inr rfl, .inr rfl, .inr rfl, .inr rfl, trivial⟩) rfl, by show l.length - (i + 1) < l.length - i; omega⟩
    · rw [hp] at hst
      have hfull : l.findIdx? p = some i := by
        conv => lhs; rw [← List.take_append_drop (i + 1) l]
        rw [List.findIdx?_append, hst]; rfl
      simp only [bool, hfull, ixI, int, FinR, evRes, evRVs, evRV, am, simprocAttr, tys]
      exact ⟨_, [], [], rfl, Ent.plain rfl rfl rfl trivial rfl, rfl, rfl⟩
  · have hlt2 : ¬ ((i : Int) < l.length) := by omega
    have hi' : i = l.length := by omega
    subst hi'
    rw [List.take_length] at hfd
    simp only [hlt2, hfd, ixI, FinR, evRes, evRVs, evRV, int, am, simprocAttr, tys]
    exact ⟨_, [], [], rfl, Ent.plain rfl rfl rfl trivial rfl, rfl, rfl⟩

theorem containsE (l : List EntT) (hl : l.length ≤ 9223372036854775807) (he : ∀ e ∈ l, FitE e) :
    AFun Try.prog 32 [.d (.sl 7 (l.map encE)), .clo (.func 33) [] []] [] (bool (l.any fun e => !(mayE e))) [] := by
  refine AFun.of_walk hP Try.func32 rfl rfl rfl (by simp) rfl ?_
  simp only [Try.f32, am, simprocAttr, tys]
  refine ACall.of (indexE l (fun e => !(mayE e)) 33 hl (by kernel_rfl) (fun x hx => noteRight1 x (he x hx))) [] [] rfl (by simp) (by simp) (by simp) (by repeat' (first | exact trivial | exact .inl rfl | exact .inr rfl | exact .inr ⟨rfl, rfl, rfl, by simp; done⟩ | exact .inr ⟨rfl, by simp; done⟩ | exact .inr ⟨rfl, rfl, by simp; done⟩ | apply And.intro)) (by repeat' (first | exact trivial | rfl | exact (tkC_ren.1 _ _).symm | (simp; done) | apply And.intro)) (by first | exact .inl rfl | (refine .inr ⟨trivial, ?_⟩; first | (intro row h; rcases List.mem_singleton.1 h with rfl; exact nvB _) | (intro row h; cases h; done) | (simp; done)) | (refine .inr ⟨by simp [nvP, nvP.nvPs, nvD, nilS, errno], ?_⟩; first | (intro row h; rcases List.mem_singleton.1 h with rfl; exact nvB _) | (intro row h; cases h; done) | (simp [nvRow, nvD, nvP]; done))) ?_
  simp only [int, bool, findIdx_any, FinR, evRes, evRVs, evRV, am, simprocAttr, tys]
  exact ⟨_, [], [], rfl, Ent.plain rfl rfl rfl trivial rfl, rfl, rfl⟩

set_option maxRecDepth 8000 in
set_option maxHeartbeats 2000000 in
theorem noteRight (x : NT) (h : FitN x) : AFun Try.prog 15 [.d (.agg (encN x))] [] (bool (rightN x)) [] := by
  refine AFun.of_walk hP Try.func15 rfl rfl rfl (by simp) rfl ?_
  unfold rightN headN numsN
  rcases h1 : decide ((x.k.toNat : Int) < 1) with _ | _
  case' true =>
    simp only [Try.f15, encN, bool, h1, Bool.not_true, Bool.false_and, FinR, evRes, evRVs, evRV, am, simprocAttr, tys]
    exact ⟨_, [], [], rfl, Ent.plain rfl rfl rfl trivial rfl, rfl, rfl⟩
  rcases h2 : decide (6 < (x.k.toNat : Int)) with _ | _
  case' true =>
    simp only [Try.f15, encN, bool, h1, h2, Bool.not_true, Bool.not_false, Bool.true_and, Bool.false_and, FinR, evRes, evRVs, evRV, am, simprocAttr, tys]
    exact ⟨_, [], [], rfl, Ent.plain rfl rfl rfl trivial rfl, rfl, rfl⟩
  simp only [Try.f15, encN, h1, h2, Bool.not_false, Bool.true_and, am, simprocAttr, tys]
  refine ACall.of (notePlace x.f) [] [] rfl (by simp) (by simp) (by simp) (by repeat' (first | exact trivial | exact .inl rfl | exact .inr rfl | exact .inr ⟨rfl, rfl, rfl, by simp; done⟩ | exact .inr ⟨rfl, by simp; done⟩ | exact .inr ⟨rfl, rfl, by simp; done⟩ | apply And.intro)) (by repeat' (first | exact trivial | rfl | exact (tkC_ren.1 _ _).symm | (simp; done) | apply And.intro)) (by first | exact .inl rfl | (refine .inr ⟨trivial, ?_⟩; first | (intro row h; rcases List.mem_singleton.1 h with rfl; exact nvB _) | (intro row h; cases h; done) | (simp; done)) | (refine .inr ⟨by simp [nvP, nvP.nvPs, nvD, nilS, errno], ?_⟩; first | (intro row h; rcases List.mem_singleton.1 h with rfl; exact nvB _) | (intro row h; cases h; done) | (simp [nvRow, nvD, nvP]; done))) ?_
  rcases h3 : placeB x.f with _ | _
  case' false =>
    simp only [bool, Bool.false_and, FinR, evRes, evRVs, evRV, am, simprocAttr, tys]
    exact ⟨_, [], [], rfl, Ent.plain rfl rfl rfl trivial rfl, rfl, rfl⟩
  simp only [bool, Bool.true_and, am, simprocAttr, tys]
  refine ACall.of (notePlace x.t) [] [] rfl (by simp) (by simp) (by simp) (by repeat' (first | exact trivial | exact .inl rfl | exact .inr rfl | exact .inr ⟨rfl, rfl, rfl, by simp; done⟩ | exact .inr ⟨rfl, by simp; done⟩ | exact .inr ⟨rfl, rfl, by simp; done⟩ | apply And.intro)) (by repeat' (first | exact trivial | rfl | exact (tkC_ren.1 _ _).symm | (simp; done) | apply And.intro)) (by first | exact .inl rfl | (refine .inr ⟨trivial, ?_⟩; first | (intro row h; rcases List.mem_singleton.1 h with rfl; exact nvB _) | (intro row h; cases h; done) | (simp; done)) | (refine .inr ⟨by simp [nvP, nvP.nvPs, nvD, nilS, errno], ?_⟩; first | (intro row h; rcases List.mem_singleton.1 h with rfl; exact nvB _) | (intro row h; cases h; done) | (simp [nvRow, nvD, nvP]; done))) ?_
  rcases h4 : placeB x.t with _ | _
  case' false =>
    simp only [bool, Bool.false_and, FinR, evRes, evRVs, evRV, am, simprocAttr, tys]
    exact ⟨_, [], [], rfl, Ent.plain rfl rfl rfl trivial rfl, rfl, rfl⟩
  rcases h5 : x.f == x.t with _ | _
  case' true =>
    simp only [bool, h5, Bool.true_and, Bool.not_true, Bool.false_and, FinR, evRes, evRVs, evRV, am, simprocAttr, tys]
    exact ⟨_, [], [], rfl, Ent.plain rfl rfl rfl trivial rfl, rfl, rfl⟩
  simp only [bool, h5, Bool.true_and, Bool.not_false, am, simprocAttr, tys]
  refine ACall.of (noteFits 0 [x.v, x.n, x.i, x.s] (by simp)) [] [1] rfl (by simp) (by simp) (by simp) (by repeat' (first | exact trivial | exact .inl rfl | exact .inr rfl | exact .inr ⟨rfl, rfl, rfl, by simp; done⟩ | exact .inr ⟨rfl, by simp; done⟩ | exact .inr ⟨rfl, rfl, by simp; done⟩ | apply And.intro)) (by repeat' (first | exact trivial | rfl | exact (tkC_ren.1 _ _).symm | (simp; done) | apply And.intro)) (by first | exact .inl rfl | (refine .inr ⟨trivial, ?_⟩; first | (intro row h; rcases List.mem_singleton.1 h with rfl; exact nvB _) | (intro row h; cases h; done) | (simp; done)) | (refine .inr ⟨by simp [nvP, nvP.nvPs, nvD, nilS, errno], ?_⟩; first | (intro row h; rcases List.mem_singleton.1 h with rfl; exact nvB _) | (intro row h; cases h; done) | (simp [nvRow, nvD, nvP]; done))) ?_
  rcases h6 : fitsB 0 [x.v, x.n, x.i, x.s] with _ | _
  case' false =>
    simp only [bool, Bool.false_and, FinR, evRes, evRVs, evRV, am, simprocAttr, tys]
    exact ⟨_, [], [], rfl, Ent.plain rfl rfl rfl trivial rfl, rfl, rfl⟩
  simp only [bool, Bool.true_and, am, simprocAttr, tys]
  refine ACall.of (noteFits 0 [x.l0, x.l1, x.l2, x.l3, x.l4, x.l5, x.l6] (by simp)) [] [0] rfl (by simp) (by simp) (by simp) (by repeat' (first | exact trivial | exact .inl rfl | exact .inr rfl | exact .inr ⟨rfl, rfl, rfl, by simp; done⟩ | exact .inr ⟨rfl, by simp; done⟩ | exact .inr ⟨rfl, rfl, by simp; done⟩ | apply And.intro)) (by repeat' (first | exact trivial | rfl | exact (tkC_ren.1 _ _).symm | (simp; done) | apply And.intro)) (by first | exact .inl rfl | (refine .inr ⟨trivial, ?_⟩; first | (intro row h; rcases List.mem_singleton.1 h with rfl; exact nvB _) | (intro row h; cases h; done) | (simp; done)) | (refine .inr ⟨by simp [nvP, nvP.nvPs, nvD, nilS, errno], ?_⟩; first | (intro row h; rcases List.mem_singleton.1 h with rfl; exact nvB _) | (intro row h; cases h; done) | (simp [nvRow, nvD, nvP]; done))) ?_
  rcases h7 : fitsB 0 [x.l0, x.l1, x.l2, x.l3, x.l4, x.l5, x.l6] with _ | _
  case' false =>
    simp only [bool, Bool.false_and, FinR, evRes, evRVs, evRV, am, simprocAttr, tys]
    exact ⟨_, [], [], rfl, Ent.plain rfl rfl rfl trivial rfl, rfl, rfl⟩
  rcases h8 : decide (300 < (x.log.length : Int)) with _ | _
  case' true =>
    simp only [bool, h8, Bool.true_and, Bool.not_true, Bool.false_and, FinR, evRes, evRVs, evRV, am, simprocAttr, tys]
    exact ⟨_, [], [], rfl, Ent.plain rfl rfl rfl trivial rfl, rfl, rfl⟩
  simp only [bool, h8, Bool.true_and, Bool.not_false, am, simprocAttr, tys]
  refine ACall.of (containsE x.log h.hl h.he) [] [] rfl (by simp) (by simp) (by simp) (by repeat' (first | exact trivial | exact .inl rfl | exact .inr rfl | exact .inr ⟨rfl, rfl, rfl, by simp; done⟩ | exact .inr ⟨rfl, by simp; done⟩ | exact .inr ⟨rfl, rfl, by simp; done⟩ | apply And.intro)) (by repeat' (first | exact trivial | rfl | exact (tkC_ren.1 _ _).symm | (simp; done) | apply And.intro)) (by first | exact .inl rfl | (refine .inr ⟨trivial, ?_⟩; first | (intro row h; rcases List.mem_singleton.1 h with rfl; exact nvB _) | (intro row h; cases h; done) | (simp; done)) | (refine .inr ⟨by simp [nvP, nvP.nvPs, nvD, nilS, errno], ?_⟩; first | (intro row h; rcases List.mem_singleton.1 h with rfl; exact nvB _) | (intro row h; cases h; done) | (simp [nvRow, nvD, nvP]; done))) ?_
  have e2 : (!(x.log.any fun e => !(mayE e))) = x.log.all mayE := by simp [List.not_any_eq_all_not]
  simp only [e2, bool, FinR, evRes, evRVs, evRV, am, simprocAttr, tys]
  exact ⟨_, [], [], rfl, Ent.plain rfl rfl rfl trivial rfl, rfl, rfl⟩

theorem refFits (n : Int) : AFun Try.prog 35 [int n] [] (bool (!(outB 0 n))) [] := by
  refine AFun.of_walk hP Try.func35 rfl rfl rfl (by simp) rfl ?_
  unfold outB
  rcases Int.lt_or_le n 0 with h | h
  · have h1 : decide (0 ≤ n) = false := decide_eq_false (by omega)
    have h2 : decide (n < 0) = true := decide_eq_true h
    simp only [Try.f35, int, bool, h1, h2, Bool.true_or, Bool.not_true, FinR, evRes, evRVs, evRV, am, simprocAttr, tys]
    exact ⟨_, [], [], rfl, Ent.plain rfl rfl rfl trivial rfl, rfl, rfl⟩
  · have h1 : decide (0 ≤ n) = true := decide_eq_true h
    have h2 : decide (n < 0) = false := decide_eq_false (by omega)
    have h3 : decide (n ≤ 1099511627776) = !(decide (1099511627776 < n)) := by
      rcases Int.lt_or_le 1099511627776 n with q | q
      · rw [decide_eq_false (by omega), decide_eq_true q]; rfl
      · rw [decide_eq_true q, decide_eq_false (by omega)]; rfl
    simp only [Try.f35, int, bool, h1, h2, h3, Bool.false_or, FinR, evRes, evRVs, evRV, am, simprocAttr, tys]
    exact ⟨_, [], [], rfl, Ent.plain rfl rfl rfl trivial rfl, rfl, rfl⟩
end Go.Proofs.Ytflpphgccjlkjaa
