/- Proved here: what the functions of the program compute. No condition. -/
import Derived.Test.YtflpphgccjlkjaaG2
import Derived.Test.YtflpphgccjlkjaaG1
set_option linter.all false
set_option linter.unusedSimpArgs false
set_option linter.unusedVariables false
set_option linter.unusedSimpArgs false
set_option linter.unusedVariables false
namespace Go.Proofs.Ytflpphgccjlkjaa
open Go Go.AM

def putO (o : OpT) : List UInt8 := o.1 :: (if o.1 = 1 then putLb o.2.1 ++ lebI o.2.2.1.1 ++ lebI o.2.2.1.2.1 else if o.1 = 3 then lebI o.2.2.1.1 else if o.1 = 4 then putA o.2.2.2.1 else [])
structure FitI (o : OpT) : Prop extends Fit o where
  p1 : I64 o.2.2.1.1
  p2 : I64 o.2.2.1.2.1
theorem lebI_len (n : Int) (h : I64 n) : (lebI n).length ≤ 10 := leb_ten _ (fold_lt n h)

theorem opPutN (o : OpT) (h : FitI o) (hr : rightO o = false) : AFun Try.prog 25 [.d (.agg (encO o))] [] (.tup [nilS, errno 1]) [] := by
  refine AFun.of_walk hP Try.func25 rfl rfl rfl (by simp) rfl ?_
  have c := opRight o h.toFit
  rw [hr] at c
  simp only [encO] at c
  simp only [Try.f25, encO, am, simprocAttr, tys]
  refine ACall.of (c) [] [] rfl (by simp) (by simp) (by simp) (by repeat' (first | exact trivial | exact .inl rfl | exact .inr rfl | exact .inr ⟨rfl, rfl, rfl, by simp; done⟩ | exact .inr ⟨rfl, by simp; done⟩ | exact .inr ⟨rfl, rfl, by simp; done⟩ | apply And.intro)) (by repeat' (first | exact trivial | rfl | exact (tkC_ren.1 _ _).symm | (simp; done) | apply And.intro)) (by first | exact .inl rfl | (refine .inr ⟨trivial, ?_⟩; first | (intro row h; rcases List.mem_singleton.1 h with rfl; exact nvB _) | (intro row h; cases h; done) | (simp; done)) | (refine .inr ⟨by simp [nvP, nvP.nvPs, nvD, nilS, errno], ?_⟩; first | (intro row h; rcases List.mem_singleton.1 h with rfl; exact nvB _) | (intro row h; cases h; done) | (simp [nvRow, nvD, nvP]; done))) ?_
  simp only [bool, nilS, errno, FinR, evRes, evRVs, evRV, am, simprocAttr, tys]
  exact ⟨_, [], [], rfl, Ent.plain rfl rfl rfl trivial rfl, rfl, rfl⟩

set_option maxRecDepth 8000 in
set_option maxHeartbeats 1000000 in
theorem opPut (o : OpT) (h : FitI o) (hr : rightO o = true) : AFun Try.prog 25 [.d (.agg (encO o))] [] (.tup [.own 0, errno 0]) [.own 1 ((putO o).map encB)] := by
  refine AFun.of_walk hP Try.func25 rfl rfl rfl (by simp) rfl ?_
  have c := opRight o h.toFit
  rw [hr] at c
  simp only [encO] at c
  have c1 : ((o.1.toNat : Int) == 1) = decide (o.1 = 1) := u8eq o.1 1 (by omega)
  have c3 : ((o.1.toNat : Int) == 3) = decide (o.1 = 3) := u8eq o.1 3 (by omega)
  have c4 : ((o.1.toNat : Int) == 4) = decide (o.1 = 4) := u8eq o.1 4 (by omega)
  have l1 := lebI_len _ h.p1
  have l2 := lebI_len _ h.p2
  have eb : ∀ x : List UInt8, [[DV.lit (.int .u8 (o.1.toNat : Int))]] ++ x.map encB = (o.1 :: x).map encB := fun x => rfl
  have eb1 : [[DV.lit (.int .u8 (o.1.toNat : Int))]] = [o.1].map encB := rfl
  by_cases h1 : o.1 = 1
  · have d1 : decide (o.1 = 1) = true := decide_eq_true h1
    have hl : rightL o.2.1 = true := by unfold rightO at hr; rw [if_pos h1] at hr; exact (Bool.and_eq_true _ _ ▸ hr).1
    have hpl := putLb_len hl
    have e : putO o = ([o.1] ++ putLb o.2.1) ++ lebI o.2.2.1.1 ++ lebI o.2.2.1.2.1 := by unfold putO; rw [if_pos h1]; simp
    have q1 := octsPutInt ([o.1] ++ putLb o.2.1) o.2.2.1.1 (by rw [List.length_append]; simp; omega) h.p1
    have q2 := octsPutInt ([o.1] ++ putLb o.2.1 ++ lebI o.2.2.1.1) o.2.2.1.2.1 (by rw [List.length_append, List.length_append]; simp; omega) h.p2
    rw [e]
    simp only [Try.f25, encO, am, simprocAttr, tys]
    refine ACall.of (c) [] [] rfl (by simp) (by simp) (by simp) (by repeat' (first | exact trivial | exact .inl rfl | exact .inr rfl | exact .inr ⟨rfl, rfl, rfl, by simp; done⟩ | exact .inr ⟨rfl, by simp; done⟩ | exact .inr ⟨rfl, rfl, by simp; done⟩ | apply And.intro)) (by repeat' (first | exact trivial | rfl | exact (tkC_ren.1 _ _).symm | (simp; done) | apply And.intro)) (by first | exact .inl rfl | (refine .inr ⟨trivial, ?_⟩; first | (intro row h; rcases List.mem_singleton.1 h with rfl; exact nvB _) | (intro row h; cases h; done) | (simp; done)) | (refine .inr ⟨by simp [nvP, nvP.nvPs, nvD, nilS, errno], ?_⟩; first | (intro row h; rcases List.mem_singleton.1 h with rfl; exact nvB _) | (intro row h; cases h; done) | (simp [nvRow, nvD, nvP]; done))) ?_
    simp only [bool, c1, d1, am, simprocAttr, tys]
    refine ACall.of (labelPut o.2.1 h.l h.lx hl) [] [] rfl (by simp) (by simp) (by simp) (by repeat' (first | exact trivial | exact .inl rfl | exact .inr rfl | exact .inr ⟨rfl, rfl, rfl, by simp; done⟩ | exact .inr ⟨rfl, by simp; done⟩ | exact .inr ⟨rfl, rfl, by simp; done⟩ | apply And.intro)) (by repeat' (first | exact trivial | rfl | exact (tkC_ren.1 _ _).symm | (simp; done) | apply And.intro)) (by first | exact .inl rfl | (refine .inr ⟨trivial, ?_⟩; first | (intro row h; rcases List.mem_singleton.1 h with rfl; exact nvB _) | (intro row h; cases h; done) | (simp; done)) | (refine .inr ⟨by simp [nvP, nvP.nvPs, nvD, nilS, errno], ?_⟩; first | (intro row h; rcases List.mem_singleton.1 h with rfl; exact nvB _) | (intro row h; cases h; done) | (simp [nvRow, nvD, nvP]; done))) ?_
    simp only [errno, eb1, ← List.map_append, am, simprocAttr, tys]
    refine ⟨by simp; omega, ?_⟩
    refine ACallD.of (q1) (by kernel_rfl) [] [131] rfl (by simp) (by simp) (by simp) (by simp) (by repeat' (first | exact trivial | exact .inl rfl | exact .inr rfl | exact .inr ⟨rfl, rfl, rfl, by simp; done⟩ | exact .inr ⟨rfl, by simp; done⟩ | exact .inr ⟨rfl, rfl, by simp; done⟩ | apply And.intro)) (by repeat' (first | exact trivial | rfl | exact (tkC_ren.1 _ _).symm | (simp; done) | apply And.intro)) (by first | exact .inl rfl | (refine .inr ⟨trivial, ?_⟩; first | (intro row h; rcases List.mem_singleton.1 h with rfl; exact nvB _) | (intro row h; cases h; done) | (simp; done)) | (refine .inr ⟨by simp [nvP, nvP.nvPs, nvD, nilS, errno], ?_⟩; first | (intro row h; rcases List.mem_singleton.1 h with rfl; exact nvB _) | (intro row h; cases h; done) | (simp [nvRow, nvD, nvP]; done))) rfl rfl rfl rfl ?_
    simp only [am, simprocAttr, tys]
    refine ACallD.of (q2) (by kernel_rfl) [] [387] rfl (by simp) (by simp) (by simp) (by simp) (by repeat' (first | exact trivial | exact .inl rfl | exact .inr rfl | exact .inr ⟨rfl, rfl, rfl, by simp; done⟩ | exact .inr ⟨rfl, by simp; done⟩ | exact .inr ⟨rfl, rfl, by simp; done⟩ | apply And.intro)) (by repeat' (first | exact trivial | rfl | exact (tkC_ren.1 _ _).symm | (simp; done) | apply And.intro)) (by first | exact .inl rfl | (refine .inr ⟨trivial, ?_⟩; first | (intro row h; rcases List.mem_singleton.1 h with rfl; exact nvB _) | (intro row h; cases h; done) | (simp; done)) | (refine .inr ⟨by simp [nvP, nvP.nvPs, nvD, nilS, errno], ?_⟩; first | (intro row h; rcases List.mem_singleton.1 h with rfl; exact nvB _) | (intro row h; cases h; done) | (simp [nvRow, nvD, nvP]; done))) rfl rfl rfl rfl ?_
    simp only [errno, FinR, evRes, evRVs, evRV, am, simprocAttr, tys]
    exact ⟨by kernel_rfl, ⟨_, [], [643], rfl, ⟨rfl, rfl, by simp, (fun i hi => absurd hi (Nat.not_lt_zero _)), trivial, ⟨.inr ⟨by decide, rfl⟩, trivial⟩, rfl, by decide, rfl, (by first | rfl | simp [scRow, tkC_scs])⟩, rfl, rfl⟩⟩
  · have d1 : decide (o.1 = 1) = false := decide_eq_false h1
    by_cases h3 : o.1 = 3
    · have d3 : decide (o.1 = 3) = true := decide_eq_true h3
      have e : putO o = [o.1] ++ lebI o.2.2.1.1 := by unfold putO; rw [if_neg h1, if_pos h3]; rfl
      have q1 := octsPutInt [o.1] o.2.2.1.1 (by simp) h.p1
      rw [e]
      simp only [Try.f25, encO, am, simprocAttr, tys]
      refine ACall.of (c) [] [] rfl (by simp) (by simp) (by simp) (by repeat' (first | exact trivial | exact .inl rfl | exact .inr rfl | exact .inr ⟨rfl, rfl, rfl, by simp; done⟩ | exact .inr ⟨rfl, by simp; done⟩ | exact .inr ⟨rfl, rfl, by simp; done⟩ | apply And.intro)) (by repeat' (first | exact trivial | rfl | exact (tkC_ren.1 _ _).symm | (simp; done) | apply And.intro)) (by first | exact .inl rfl | (refine .inr ⟨trivial, ?_⟩; first | (intro row h; rcases List.mem_singleton.1 h with rfl; exact nvB _) | (intro row h; cases h; done) | (simp; done)) | (refine .inr ⟨by simp [nvP, nvP.nvPs, nvD, nilS, errno], ?_⟩; first | (intro row h; rcases List.mem_singleton.1 h with rfl; exact nvB _) | (intro row h; cases h; done) | (simp [nvRow, nvD, nvP]; done))) ?_
      simp only [bool, c1, d1, c3, d3, am, simprocAttr, tys]
      refine ACall.of (q1) [] [1] rfl (by simp) (by simp) (by simp) (by repeat' (first | exact trivial | exact .inl rfl | exact .inr rfl | exact .inr ⟨rfl, rfl, rfl, by simp; done⟩ | exact .inr ⟨rfl, by simp; done⟩ | exact .inr ⟨rfl, rfl, by simp; done⟩ | apply And.intro)) (by repeat' (first | exact trivial | rfl | exact (tkC_ren.1 _ _).symm | (simp; done) | apply And.intro)) (by first | exact .inl rfl | (refine .inr ⟨trivial, ?_⟩; first | (intro row h; rcases List.mem_singleton.1 h with rfl; exact nvB _) | (intro row h; cases h; done) | (simp; done)) | (refine .inr ⟨by simp [nvP, nvP.nvPs, nvD, nilS, errno], ?_⟩; first | (intro row h; rcases List.mem_singleton.1 h with rfl; exact nvB _) | (intro row h; cases h; done) | (simp [nvRow, nvD, nvP]; done))) ?_
      simp only [errno, FinR, evRes, evRVs, evRV, am, simprocAttr, tys]
      exact ⟨_, [], [2], rfl, ⟨rfl, rfl, by simp, (fun i hi => absurd hi (Nat.not_lt_zero _)), trivial, ⟨.inr ⟨by decide, rfl⟩, trivial⟩, rfl, by decide, rfl, (by first | rfl | simp [scRow, tkC_scs])⟩, rfl, rfl⟩
    · have d3 : decide (o.1 = 3) = false := decide_eq_false h3
      by_cases h4 : o.1 = 4
      · have d4 : decide (o.1 = 4) = true := decide_eq_true h4
        have ha : rightA o.2.2.2.1 = true := by unfold rightO at hr; rw [if_neg h1, if_pos h4] at hr; exact (Bool.and_eq_true _ _ ▸ hr).1
        have hpl := putA_len ha
        have e : putO o = [o.1] ++ putA o.2.2.2.1 := by unfold putO; rw [if_neg h1, if_neg h3, if_pos h4]; rfl
        rw [e]
        simp only [Try.f25, encO, am, simprocAttr, tys]
        refine ACall.of (c) [] [] rfl (by simp) (by simp) (by simp) (by repeat' (first | exact trivial | exact .inl rfl | exact .inr rfl | exact .inr ⟨rfl, rfl, rfl, by simp; done⟩ | exact .inr ⟨rfl, by simp; done⟩ | exact .inr ⟨rfl, rfl, by simp; done⟩ | apply And.intro)) (by repeat' (first | exact trivial | rfl | exact (tkC_ren.1 _ _).symm | (simp; done) | apply And.intro)) (by first | exact .inl rfl | (refine .inr ⟨trivial, ?_⟩; first | (intro row h; rcases List.mem_singleton.1 h with rfl; exact nvB _) | (intro row h; cases h; done) | (simp; done)) | (refine .inr ⟨by simp [nvP, nvP.nvPs, nvD, nilS, errno], ?_⟩; first | (intro row h; rcases List.mem_singleton.1 h with rfl; exact nvB _) | (intro row h; cases h; done) | (simp [nvRow, nvD, nvP]; done))) ?_
        simp only [bool, c1, d1, c3, d3, c4, d4, am, simprocAttr, tys]
        refine ACall.of (matchPut o.2.2.2.1 h.a h.ax ha) [] [] rfl (by simp) (by simp) (by simp) (by repeat' (first | exact trivial | exact .inl rfl | exact .inr rfl | exact .inr ⟨rfl, rfl, rfl, by simp; done⟩ | exact .inr ⟨rfl, by simp; done⟩ | exact .inr ⟨rfl, rfl, by simp; done⟩ | apply And.intro)) (by repeat' (first | exact trivial | rfl | exact (tkC_ren.1 _ _).symm | (simp; done) | apply And.intro)) (by first | exact .inl rfl | (refine .inr ⟨trivial, ?_⟩; first | (intro row h; rcases List.mem_singleton.1 h with rfl; exact nvB _) | (intro row h; cases h; done) | (simp; done)) | (refine .inr ⟨by simp [nvP, nvP.nvPs, nvD, nilS, errno], ?_⟩; first | (intro row h; rcases List.mem_singleton.1 h with rfl; exact nvB _) | (intro row h; cases h; done) | (simp [nvRow, nvD, nvP]; done))) ?_
        simp only [errno, eb1, ← List.map_append, FinR, evRes, evRVs, evRV, am, simprocAttr, tys]
        exact ⟨by simp; omega, ⟨_, [], [3], rfl, ⟨rfl, rfl, by simp, (fun i hi => absurd hi (Nat.not_lt_zero _)), trivial, ⟨.inr ⟨by decide, rfl⟩, trivial⟩, rfl, by decide, rfl, (by first | rfl | simp [scRow, tkC_scs])⟩, rfl, rfl⟩⟩
      · have d4 : decide (o.1 = 4) = false := decide_eq_false h4
        have e : putO o = [o.1] := by unfold putO; rw [if_neg h1, if_neg h3, if_neg h4]
        rw [e]
        simp only [Try.f25, encO, am, simprocAttr, tys]
        refine ACall.of (c) [] [] rfl (by simp) (by simp) (by simp) (by repeat' (first | exact trivial | exact .inl rfl | exact .inr rfl | exact .inr ⟨rfl, rfl, rfl, by simp; done⟩ | exact .inr ⟨rfl, by simp; done⟩ | exact .inr ⟨rfl, rfl, by simp; done⟩ | apply And.intro)) (by repeat' (first | exact trivial | rfl | exact (tkC_ren.1 _ _).symm | (simp; done) | apply And.intro)) (by first | exact .inl rfl | (refine .inr ⟨trivial, ?_⟩; first | (intro row h; rcases List.mem_singleton.1 h with rfl; exact nvB _) | (intro row h; cases h; done) | (simp; done)) | (refine .inr ⟨by simp [nvP, nvP.nvPs, nvD, nilS, errno], ?_⟩; first | (intro row h; rcases List.mem_singleton.1 h with rfl; exact nvB _) | (intro row h; cases h; done) | (simp [nvRow, nvD, nvP]; done))) ?_
        simp only [bool, c1, d1, c3, d3, c4, d4, errno, FinR, evRes, evRVs, evRV, am, simprocAttr, tys]
        exact ⟨_, [], [1], rfl, ⟨rfl, rfl, by simp, (fun i hi => absurd hi (Nat.not_lt_zero _)), trivial, ⟨.inr ⟨by decide, rfl⟩, trivial⟩, rfl, by decide, rfl, (by first | rfl | simp [scRow, tkC_scs])⟩, rfl, rfl⟩

theorem refOPutN (o : OpT) (h : FitI o) (hr : rightO o = false) : AFun Try.prog 28 [.d (.agg (encO o))] [] (.tup [nilS, errno 1]) [] := by
  refine AFun.of_walk hP Try.func28 rfl rfl rfl (by simp) rfl ?_
  have c := refORight o h.toFit
  rw [hr] at c
  simp only [encO] at c
  simp only [Try.f28, encO, am, simprocAttr, tys]
  refine ACall.of (c) [] [] rfl (by simp) (by simp) (by simp) (by repeat' (first | exact trivial | exact .inl rfl | exact .inr rfl | exact .inr ⟨rfl, rfl, rfl, by simp; done⟩ | exact .inr ⟨rfl, by simp; done⟩ | exact .inr ⟨rfl, rfl, by simp; done⟩ | apply And.intro)) (by repeat' (first | exact trivial | rfl | exact (tkC_ren.1 _ _).symm | (simp; done) | apply And.intro)) (by first | exact .inl rfl | (refine .inr ⟨trivial, ?_⟩; first | (intro row h; rcases List.mem_singleton.1 h with rfl; exact nvB _) | (intro row h; cases h; done) | (simp; done)) | (refine .inr ⟨by simp [nvP, nvP.nvPs, nvD, nilS, errno], ?_⟩; first | (intro row h; rcases List.mem_singleton.1 h with rfl; exact nvB _) | (intro row h; cases h; done) | (simp [nvRow, nvD, nvP]; done))) ?_
  simp only [bool, nilS, errno, FinR, evRes, evRVs, evRV, am, simprocAttr, tys]
  exact ⟨_, [], [], rfl, Ent.plain rfl rfl rfl trivial rfl, rfl, rfl⟩

set_option maxRecDepth 8000 in
set_option maxHeartbeats 1000000 in
theorem refOPut (o : OpT) (h : FitI o) (hr : rightO o = true) : AFun Try.prog 28 [.d (.agg (encO o))] [] (.tup [.own 0, errno 0]) [.own 1 ((putO o).map encB)] := by
  refine AFun.of_walk hP Try.func28 rfl rfl rfl (by simp) rfl ?_
  have c := refORight o h.toFit
  rw [hr] at c
  simp only [encO] at c
  have c1 : ((o.1.toNat : Int) == 1) = decide (o.1 = 1) := u8eq o.1 1 (by omega)
  have c3 : ((o.1.toNat : Int) == 3) = decide (o.1 = 3) := u8eq o.1 3 (by omega)
  have c4 : ((o.1.toNat : Int) == 4) = decide (o.1 = 4) := u8eq o.1 4 (by omega)
  have l1 := lebI_len _ h.p1
  have l2 := lebI_len _ h.p2
  have eb1 : [[DV.lit (.int .u8 (o.1.toNat : Int))]] = [o.1].map encB := rfl
  by_cases h1 : o.1 = 1
  · have d1 : decide (o.1 = 1) = true := decide_eq_true h1
    have hl : rightL o.2.1 = true := by unfold rightO at hr; rw [if_pos h1] at hr; exact (Bool.and_eq_true _ _ ▸ hr).1
    have hpl := putLb_len hl
    have e : putO o = ([o.1] ++ putLb o.2.1) ++ lebI o.2.2.1.1 ++ lebI o.2.2.1.2.1 := by unfold putO; rw [if_pos h1]; simp
    have q1 := refPutInt ([o.1] ++ putLb o.2.1) o.2.2.1.1 (by rw [List.length_append]; simp; omega) h.p1
    have q2 := refPutInt ([o.1] ++ putLb o.2.1 ++ lebI o.2.2.1.1) o.2.2.1.2.1 (by rw [List.length_append, List.length_append]; simp; omega) h.p2
    rw [e]
    simp only [Try.f28, encO, am, simprocAttr, tys]
    refine ACall.of (c) [] [] rfl (by simp) (by simp) (by simp) (by repeat' (first | exact trivial | exact .inl rfl | exact .inr rfl | exact .inr ⟨rfl, rfl, rfl, by simp; done⟩ | exact .inr ⟨rfl, by simp; done⟩ | exact .inr ⟨rfl, rfl, by simp; done⟩ | apply And.intro)) (by repeat' (first | exact trivial | rfl | exact (tkC_ren.1 _ _).symm | (simp; done) | apply And.intro)) (by first | exact .inl rfl | (refine .inr ⟨trivial, ?_⟩; first | (intro row h; rcases List.mem_singleton.1 h with rfl; exact nvB _) | (intro row h; cases h; done) | (simp; done)) | (refine .inr ⟨by simp [nvP, nvP.nvPs, nvD, nilS, errno], ?_⟩; first | (intro row h; rcases List.mem_singleton.1 h with rfl; exact nvB _) | (intro row h; cases h; done) | (simp [nvRow, nvD, nvP]; done))) ?_
    simp only [bool, c1, d1, am, simprocAttr, tys]
    refine ACall.of (refLPut o.2.1 h.l h.lx hl) [] [] rfl (by simp) (by simp) (by simp) (by repeat' (first | exact trivial | exact .inl rfl | exact .inr rfl | exact .inr ⟨rfl, rfl, rfl, by simp; done⟩ | exact .inr ⟨rfl, by simp; done⟩ | exact .inr ⟨rfl, rfl, by simp; done⟩ | apply And.intro)) (by repeat' (first | exact trivial | rfl | exact (tkC_ren.1 _ _).symm | (simp; done) | apply And.intro)) (by first | exact .inl rfl | (refine .inr ⟨trivial, ?_⟩; first | (intro row h; rcases List.mem_singleton.1 h with rfl; exact nvB _) | (intro row h; cases h; done) | (simp; done)) | (refine .inr ⟨by simp [nvP, nvP.nvPs, nvD, nilS, errno], ?_⟩; first | (intro row h; rcases List.mem_singleton.1 h with rfl; exact nvB _) | (intro row h; cases h; done) | (simp [nvRow, nvD, nvP]; done))) ?_
    simp only [errno, eb1, ← List.map_append, am, simprocAttr, tys]
    refine ⟨by simp; omega, ?_⟩
    refine ACall.of (q1) [] [3] rfl (by simp) (by simp) (by simp) (by repeat' (first | exact trivial | exact .inl rfl | exact .inr rfl | exact .inr ⟨rfl, rfl, rfl, by simp; done⟩ | exact .inr ⟨rfl, by simp; done⟩ | exact .inr ⟨rfl, rfl, by simp; done⟩ | apply And.intro)) (by repeat' (first | exact trivial | rfl | exact (tkC_ren.1 _ _).symm | (simp; done) | apply And.intro)) (by first | exact .inl rfl | (refine .inr ⟨trivial, ?_⟩; first | (intro row h; rcases List.mem_singleton.1 h with rfl; exact nvB _) | (intro row h; cases h; done) | (simp; done)) | (refine .inr ⟨by simp [nvP, nvP.nvPs, nvD, nilS, errno], ?_⟩; first | (intro row h; rcases List.mem_singleton.1 h with rfl; exact nvB _) | (intro row h; cases h; done) | (simp [nvRow, nvD, nvP]; done))) ?_
    simp only [am, simprocAttr, tys]
    refine ACall.of (q2) [] [4] rfl (by simp) (by simp) (by simp) (by repeat' (first | exact trivial | exact .inl rfl | exact .inr rfl | exact .inr ⟨rfl, rfl, rfl, by simp; done⟩ | exact .inr ⟨rfl, by simp; done⟩ | exact .inr ⟨rfl, rfl, by simp; done⟩ | apply And.intro)) (by repeat' (first | exact trivial | rfl | exact (tkC_ren.1 _ _).symm | (simp; done) | apply And.intro)) (by first | exact .inl rfl | (refine .inr ⟨trivial, ?_⟩; first | (intro row h; rcases List.mem_singleton.1 h with rfl; exact nvB _) | (intro row h; cases h; done) | (simp; done)) | (refine .inr ⟨by simp [nvP, nvP.nvPs, nvD, nilS, errno], ?_⟩; first | (intro row h; rcases List.mem_singleton.1 h with rfl; exact nvB _) | (intro row h; cases h; done) | (simp [nvRow, nvD, nvP]; done))) ?_
    simp only [errno, FinR, evRes, evRVs, evRV, am, simprocAttr, tys]
    exact ⟨_, [], [5], rfl, ⟨rfl, rfl, by simp, (fun i hi => absurd hi (Nat.not_lt_zero _)), trivial, ⟨.inr ⟨by decide, rfl⟩, trivial⟩, rfl, by decide, rfl, (by first | rfl | simp [scRow, tkC_scs])⟩, rfl, rfl⟩
  · have d1 : decide (o.1 = 1) = false := decide_eq_false h1
    by_cases h3 : o.1 = 3
    · have d3 : decide (o.1 = 3) = true := decide_eq_true h3
      have e : putO o = [o.1] ++ lebI o.2.2.1.1 := by unfold putO; rw [if_neg h1, if_pos h3]; rfl
      have q1 := refPutInt [o.1] o.2.2.1.1 (by simp) h.p1
      rw [e]
      simp only [Try.f28, encO, am, simprocAttr, tys]
      refine ACall.of (c) [] [] rfl (by simp) (by simp) (by simp) (by repeat' (first | exact trivial | exact .inl rfl | exact .inr rfl | exact .inr ⟨rfl, rfl, rfl, by simp; done⟩ | exact .inr ⟨rfl, by simp; done⟩ | exact .inr ⟨rfl, rfl, by simp; done⟩ | apply And.intro)) (by repeat' (first | exact trivial | rfl | exact (tkC_ren.1 _ _).symm | (simp; done) | apply And.intro)) (by first | exact .inl rfl | (refine .inr ⟨trivial, ?_⟩; first | (intro row h; rcases List.mem_singleton.1 h with rfl; exact nvB _) | (intro row h; cases h; done) | (simp; done)) | (refine .inr ⟨by simp [nvP, nvP.nvPs, nvD, nilS, errno], ?_⟩; first | (intro row h; rcases List.mem_singleton.1 h with rfl; exact nvB _) | (intro row h; cases h; done) | (simp [nvRow, nvD, nvP]; done))) ?_
      simp only [bool, c1, d1, c3, d3, am, simprocAttr, tys]
      refine ACall.of (q1) [] [1] rfl (by simp) (by simp) (by simp) (by repeat' (first | exact trivial | exact .inl rfl | exact .inr rfl | exact .inr ⟨rfl, rfl, rfl, by simp; done⟩ | exact .inr ⟨rfl, by simp; done⟩ | exact .inr ⟨rfl, rfl, by simp; done⟩ | apply And.intro)) (by repeat' (first | exact trivial | rfl | exact (tkC_ren.1 _ _).symm | (simp; done) | apply And.intro)) (by first | exact .inl rfl | (refine .inr ⟨trivial, ?_⟩; first | (intro row h; rcases List.mem_singleton.1 h with rfl; exact nvB _) | (intro row h; cases h; done) | (simp; done)) | (refine .inr ⟨by simp [nvP, nvP.nvPs, nvD, nilS, errno], ?_⟩; first | (intro row h; rcases List.mem_singleton.1 h with rfl; exact nvB _) | (intro row h; cases h; done) | (simp [nvRow, nvD, nvP]; done))) ?_
      simp only [errno, FinR, evRes, evRVs, evRV, am, simprocAttr, tys]
      exact ⟨_, [], [2], rfl, ⟨rfl, rfl, by simp, (fun i hi => absurd hi (Nat.not_lt_zero _)), trivial, ⟨.inr ⟨by decide, rfl⟩, trivial⟩, rfl, by decide, rfl, (by first | rfl | simp [scRow, tkC_scs])⟩, rfl, rfl⟩
    · have d3 : decide (o.1 = 3) = false := decide_eq_false h3
      by_cases h4 : o.1 = 4
      · have d4 : decide (o.1 = 4) = true := decide_eq_true h4
        have ha : rightA o.2.2.2.1 = true := by unfold rightO at hr; rw [if_neg h1, if_pos h4] at hr; exact (Bool.and_eq_true _ _ ▸ hr).1
        have hpl := putA_len ha
        have e : putO o = [o.1] ++ putA o.2.2.2.1 := by unfold putO; rw [if_neg h1, if_neg h3, if_pos h4]; rfl
        rw [e]
        simp only [Try.f28, encO, am, simprocAttr, tys]
        refine ACall.of (c) [] [] rfl (by simp) (by simp) (by simp) (by repeat' (first | exact trivial | exact .inl rfl | exact .inr rfl | exact .inr ⟨rfl, rfl, rfl, by simp; done⟩ | exact .inr ⟨rfl, by simp; done⟩ | exact .inr ⟨rfl, rfl, by simp; done⟩ | apply And.intro)) (by repeat' (first | exact trivial | rfl | exact (tkC_ren.1 _ _).symm | (simp; done) | apply And.intro)) (by first | exact .inl rfl | (refine .inr ⟨trivial, ?_⟩; first | (intro row h; rcases List.mem_singleton.1 h with rfl; exact nvB _) | (intro row h; cases h; done) | (simp; done)) | (refine .inr ⟨by simp [nvP, nvP.nvPs, nvD, nilS, errno], ?_⟩; first | (intro row h; rcases List.mem_singleton.1 h with rfl; exact nvB _) | (intro row h; cases h; done) | (simp [nvRow, nvD, nvP]; done))) ?_
        simp only [bool, c1, d1, c3, d3, c4, d4, am, simprocAttr, tys]
        refine ACall.of (refMPut o.2.2.2.1 h.a h.ax ha) [] [] rfl (by simp) (by simp) (by simp) (by repeat' (first | exact trivial | exact .inl rfl | exact .inr rfl | exact .inr ⟨rfl, rfl, rfl, by simp; done⟩ | exact .inr ⟨rfl, by simp; done⟩ | exact .inr ⟨rfl, rfl, by simp; done⟩ | apply And.intro)) (by repeat' (first | exact trivial | rfl | exact (tkC_ren.1 _ _).symm | (simp; done) | apply And.intro)) (by first | exact .inl rfl | (refine .inr ⟨trivial, ?_⟩; first | (intro row h; rcases List.mem_singleton.1 h with rfl; exact nvB _) | (intro row h; cases h; done) | (simp; done)) | (refine .inr ⟨by simp [nvP, nvP.nvPs, nvD, nilS, errno], ?_⟩; first | (intro row h; rcases List.mem_singleton.1 h with rfl; exact nvB _) | (intro row h; cases h; done) | (simp [nvRow, nvD, nvP]; done))) ?_
        simp only [errno, eb1, ← List.map_append, FinR, evRes, evRVs, evRV, am, simprocAttr, tys]
        exact ⟨by simp; omega, ⟨_, [], [3], rfl, ⟨rfl, rfl, by simp, (fun i hi => absurd hi (Nat.not_lt_zero _)), trivial, ⟨.inr ⟨by decide, rfl⟩, trivial⟩, rfl, by decide, rfl, (by first | rfl | simp [scRow, tkC_scs])⟩, rfl, rfl⟩⟩
      · have d4 : decide (o.1 = 4) = false := decide_eq_false h4
        have e : putO o = [o.1] := by unfold putO; rw [if_neg h1, if_neg h3, if_neg h4]
        rw [e]
        simp only [Try.f28, encO, am, simprocAttr, tys]
        refine ACall.of (c) [] [] rfl (by simp) (by simp) (by simp) (by repeat' (first | exact trivial | exact .inl rfl | exact .inr rfl | exact .inr ⟨rfl, rfl, rfl, by simp; done⟩ | exact .inr ⟨rfl, by simp; done⟩ | exact .inr ⟨rfl, rfl, by simp; done⟩ | apply And.intro)) (by repeat' (first | exact trivial | rfl | exact (tkC_ren.1 _ _).symm | (simp; done) | apply And.intro)) (by first | exact .inl rfl | (refine .inr ⟨trivial, ?_⟩; first | (intro row h; rcases List.mem_singleton.1 h with rfl; exact nvB _) | (intro row h; cases h; done) | (simp; done)) | (refine .inr ⟨by simp [nvP, nvP.nvPs, nvD, nilS, errno], ?_⟩; first | (intro row h; rcases List.mem_singleton.1 h with rfl; exact nvB _) | (intro row h; cases h; done) | (simp [nvRow, nvD, nvP]; done))) ?_
        simp only [bool, c1, d1, c3, d3, c4, d4, errno, FinR, evRes, evRVs, evRV, am, simprocAttr, tys]
        exact ⟨_, [], [1], rfl, ⟨rfl, rfl, by simp, (fun i hi => absurd hi (Nat.not_lt_zero _)), trivial, ⟨.inr ⟨by decide, rfl⟩, trivial⟩, rfl, by decide, rfl, (by first | rfl | simp [scRow, tkC_scs])⟩, rfl, rfl⟩
end Go.Proofs.Ytflpphgccjlkjaa

set_option linter.unusedSimpArgs false
set_option linter.unusedVariables false
namespace Go.Proofs.Ytflpphgccjlkjaa
open Go Go.AM
theorem wfI64 {n : Int} (h : (Lit.int .i64 n).wf = true) : I64 n := by
  simp only [Lit.wf, Bool.and_eq_true, decide_eq_true_eq] at h
  exact h
theorem AFun.arg1 {f : Nat} {p p' : PV} {r : PV} {out : List Row} (h : AFun Try.prog f [p] [] r out) (hp : ∀ rows β w X v, repP rows β w X p' v → repP rows β w X p v) : AFun Try.prog f [p'] [] r out := by
  intro B β X w vs hk h0 hm hq
  refine h B β X w vs hk h0 hm ?_
  unfold repPs at *
  obtain ⟨u, us, e, h1, h2⟩ := hq
  exact ⟨u, us, e, hp _ _ _ _ _ h1, h2⟩
theorem nil_rep (sz : Nat) (w : World) (X : Nat → Prop) (v : Value) (h : rep w X (.lit (.slice none 0 0)) v) : rep w X (.sl sz []) v := by
  have := nil_sl sz (lrows []) (fun _ => ⟨none, 0⟩) w X v (by unfold repP; exact h)
  unfold repP at this; exact this
theorem nilO {a b c : DV} (rows : AM.Rows) (β : Nat → AM.Loc) (w : World) (X : Nat → Prop) (v : Value) (h : repP rows β w X (.d (.agg [a, .lit (.slice none 0 0), b, c, .lit (.slice none 0 0)])) v) : repP rows β w X (.d (.agg [a, .sl 2 [], b, c, .sl 3 []])) v := by
  unfold repP rep at *
  obtain ⟨vs, e, h⟩ := h
  refine ⟨vs, e, ?_⟩
  simp only [reps] at *
  obtain ⟨u1, s1, e1, o1, r1, u2, s2, e2, o2, r2, u3, s3, e3, o3, r3, u4, s4, e4, o4, r4, u5, s5, e5, o5, r5, e6⟩ := h
  exact ⟨u1, s1, e1, o1, r1, u2, s2, e2, o2, nil_rep 2 w X u2 r2, u3, s3, e3, o3, r3, u4, s4, e4, o4, r4, u5, s5, e5, o5, nil_rep 3 w X u5 r5, e6⟩
end Go.Proofs.Ytflpphgccjlkjaa

set_option linter.unusedSimpArgs false
set_option linter.unusedVariables false
namespace Go.Proofs.Ytflpphgccjlkjaa
open Go Go.AM

/-! ## labels of bytes -/
def decLab (bs : List UInt8) : Option (Lab × List UInt8) :=
  match takeText bs with
  | none => none
  | some (s, r1) => match takeText r1 with
    | none => none
    | some (v, r2) => some ((s, v, ()), r2)
theorem decLab_some (bs : List UInt8) (x : Lab) (r : List UInt8) (h : decLab bs = some (x, r)) : bs = encLab x ++ r := by
  unfold decLab at h
  split at h
  · cases h
  · rename_i s r1 h1
    split at h
    · cases h
    · rename_i v r2 h2
      simp only [Option.some.injEq, Prod.mk.injEq] at h
      obtain ⟨rfl, rfl⟩ := h
      rw [(takeText_some h1).1, (takeText_some h2).1]
      simp [encLab]
theorem decLab_enc (x : Lab) (h1 : x.1.length < 18446744073709551616) (h2 : x.2.1.length < 18446744073709551616) (r : List UInt8) : decLab (encLab x ++ r) = some (x, r) := by
  unfold encLab decLab
  simp only [List.append_assoc, takeText_lebT _ _ h1, takeText_lebT _ _ h2]

def takeLb (b : List UInt8) : Option (List Lab × List UInt8) := takeL decLab rightL 6 b
theorem takeLb_some {b : List UInt8} {l : List Lab} {r : List UInt8} (h : takeLb b = some (l, r)) : rightL l = true ∧ b = putLb l ++ r := takeL_some encLab decLab decLab_some h
theorem takeLb_put (l : List Lab) (r : List UInt8) (h : rightL l = true) : takeLb (putLb l ++ r) = some (l, r) := by
  obtain ⟨h8, _, hall⟩ := rightL_len h
  refine takeL_put encLab decLab r h h8 (by omega) fun x hx r => ?_
  obtain ⟨h1, h2⟩ := hall x hx
  exact decLab_enc x (by omega) (by omega) r
theorem takeLb_none (b : List UInt8) (h : ∀ l r, rightL l = true → b = putLb l ++ r → False) : takeLb b = none := by
  rcases hk : takeLb b with _ | ⟨l, r⟩
  · rfl
  · obtain ⟨h1, h2⟩ := takeLb_some hk
    exact (h l r h1 h2).elim
theorem putLb_inj {l m : List Lab} (h1 : rightL l = true) (h2 : rightL m = true) (h : putLb l = putLb m) : l = m := by
  have e1 := takeLb_put l [] h1
  have e2 := takeLb_put m [] h2
  rw [h, e2] at e1
  simpa using e1.symm

end Go.Proofs.Ytflpphgccjlkjaa

set_option linter.unusedSimpArgs false
set_option linter.unusedVariables false
namespace Go.Proofs.Ytflpphgccjlkjaa
open Go Go.AM

/-! ## the number of bits -/
def bl (n : Nat) : Nat := if n = 0 then 0 else n.log2 + 1
theorem bl_le (n k : Nat) : bl n ≤ k ↔ n < 2 ^ k := by
  unfold bl
  split
  · rename_i h; subst h; simp [Nat.pow_pos]
  · rename_i h
    rw [← Nat.log2_lt h]; omega
theorem bl_shift (n k : Nat) (h : 2 ^ k ≤ n) : bl n = bl (n / 2 ^ k) + k := by
  have hk : 0 < 2 ^ k := Nat.pow_pos (by omega)
  apply Nat.le_antisymm
  · rw [bl_le]
    have := (bl_le (n / 2 ^ k) _).1 (Nat.le_refl _)
    rw [Nat.pow_add]
    exact (Nat.div_lt_iff_lt_mul hk).1 this
  · have h0 : n / 2 ^ k ≠ 0 := by
      have := Nat.div_pos h hk; omega
    have h1 : k < bl n := by
      rcases Nat.lt_or_ge k (bl n) with h1 | h1
      · exact h1
      · have := (bl_le n k).1 h1; omega
    have : bl (n / 2 ^ k) ≤ bl n - k := by
      rw [bl_le]
      have := (bl_le n _).1 (Nat.le_refl _)
      rw [Nat.div_lt_iff_lt_mul hk, ← Nat.pow_add]
      rwa [show bl n - k + k = bl n from by omega]
    omega
theorem tab_eq : ∀ m, m < 256 → ([0, 1, 2, 2, 3, 3, 3, 3, 4, 4, 4, 4, 4, 4, 4, 4, 5, 5, 5, 5, 5, 5, 5, 5, 5, 5, 5, 5, 5, 5, 5, 5, 6, 6, 6, 6, 6, 6, 6, 6, 6, 6, 6, 6, 6, 6, 6, 6, 6, 6, 6, 6, 6, 6, 6, 6, 6, 6, 6, 6, 6, 6, 6, 6, 7, 7, 7, 7, 7, 7, 7, 7, 7, 7, 7, 7, 7, 7, 7, 7, 7, 7, 7, 7, 7, 7, 7, 7, 7, 7, 7, 7, 7, 7, 7, 7, 7, 7, 7, 7, 7, 7, 7, 7, 7, 7, 7, 7, 7, 7, 7, 7, 7, 7, 7, 7, 7, 7, 7, 7, 7, 7, 7, 7, 7, 7, 7, 7, 8, 8, 8, 8, 8, 8, 8, 8, 8, 8, 8, 8, 8, 8, 8, 8, 8, 8, 8, 8, 8, 8, 8, 8, 8, 8, 8, 8, 8, 8, 8, 8, 8, 8, 8, 8, 8, 8, 8, 8, 8, 8, 8, 8, 8, 8, 8, 8, 8, 8, 8, 8, 8, 8, 8, 8, 8, 8, 8, 8, 8, 8, 8, 8, 8, 8, 8, 8, 8, 8, 8, 8, 8, 8, 8, 8, 8, 8, 8, 8, 8, 8, 8, 8, 8, 8, 8, 8, 8, 8, 8, 8, 8, 8, 8, 8, 8, 8, 8, 8, 8, 8, 8, 8, 8, 8, 8, 8, 8, 8, 8, 8, 8, 8, 8, 8, 8, 8, 8, 8, 8, 8, 8, 8, 8, 8, 8, 8] : List UInt8).getD m 0 = UInt8.ofNat (bl m) := by decide +kernel

theorem sr64n (n k : Nat) (hk : k ≤ 64) : (n : Int).fdiv (2 ^ min k IntKind.u64.bits) = ((n / 2 ^ k : Nat) : Int) := by
  show (n : Int).fdiv (2 ^ min k 64) = _
  rw [Nat.min_eq_left hk, fdiv_nat, Nat.shiftRight_eq_div_pow]

theorem bl8 (m : Nat) (h : m < 256) : bl m ≤ 8 := (bl_le m 8).2 (by omega)
theorem bl_u8 (m : Nat) (h : m < 256) : ((UInt8.ofNat (bl m)).toNat : Int) = bl m := by
  have := bl8 m h
  rw [u8ofNat _ (by omega)]

theorem i64c : IntKind.i64.wrap 0 = 0 ∧ IntKind.i64.wrap 8 = 8 ∧ IntKind.i64.wrap 16 = 16 ∧ IntKind.i64.wrap 24 = 24 ∧ IntKind.i64.wrap 32 = 32 ∧ IntKind.i64.wrap 40 = 40 ∧ IntKind.i64.wrap 48 = 48 ∧ IntKind.i64.wrap 56 = 56 := by decide
set_option maxRecDepth 20000 in
theorem len64 (n : Nat) (hn : n < 18446744073709551616) : AFun Try.prog 64 [u64 n] [] (int (bl n)) [] := by
  refine AFun.of_walk hP Try.func64 rfl rfl rfl (by simp) rfl ?_
  rcases Nat.lt_or_ge (n) 4294967296 with h0 | h0
  · have g0 : ¬ ((4294967296 : Int) ≤ ((n : Nat) : Int)) := by omega
    rcases Nat.lt_or_ge (n) 65536 with h1 | h1
    · have g1 : ¬ ((65536 : Int) ≤ ((n : Nat) : Int)) := by omega
      rcases Nat.lt_or_ge (n) 256 with h2 | h2
      · have g2 : ¬ ((256 : Int) ≤ ((n : Nat) : Int)) := by omega
        have hm : n < 256 := by omega
        have hb := bl8 (n) hm
        have w1 : IntKind.u8.wrap ((n : Nat) : Int) = ((n : Nat) : Int) := by rw [IntKind.wrap_u8]; omega
        have w2 : IntKind.i64.wrap ((bl (n) : Nat) : Int) = bl (n) := IntWalk.i64_in _ (by omega)
        have w3 : IntKind.i64.wrap ((0 : Int) + bl (n)) = bl n := by rw [IntWalk.i64_in _ (by omega)]; omega
        simp only [Try.f64, u64, sr64n _ 32 (by omega), sr64n _ 16 (by omega), sr64n _ 8 (by omega), g0, g1, g2, w1, w2, w3, bl_size, Int.natCast_nonneg, Int.toNat_natCast, tab_eq _ hm, bl_u8 _ hm, i64c, List.append_eq, List.length_cons, List.length_nil, FinR, evRes, evRVs, evRV, am, simprocAttr, tys]
        exact ⟨by omega, _, [], [], rfl, Ent.plain rfl rfl rfl trivial rfl, rfl, rfl⟩
      · have g2 : ((256 : Int) ≤ ((n : Nat) : Int)) := by omega
        have b2 := bl_shift (n) 8 (by omega)
        have hm : n / 2 ^ 8 < 256 := by omega
        have hb := bl8 (n / 2 ^ 8) hm
        have w1 : IntKind.u8.wrap ((n / 2 ^ 8 : Nat) : Int) = ((n / 2 ^ 8 : Nat) : Int) := by rw [IntKind.wrap_u8]; omega
        have w2 : IntKind.i64.wrap ((bl (n / 2 ^ 8) : Nat) : Int) = bl (n / 2 ^ 8) := IntWalk.i64_in _ (by omega)
        have w3 : IntKind.i64.wrap ((8 : Int) + bl (n / 2 ^ 8)) = bl n := by rw [IntWalk.i64_in _ (by omega)]; omega
        simp only [Try.f64, u64, sr64n _ 32 (by omega), sr64n _ 16 (by omega), sr64n _ 8 (by omega), g0, g1, g2, w1, w2, w3, bl_size, Int.natCast_nonneg, Int.toNat_natCast, tab_eq _ hm, bl_u8 _ hm, i64c, List.append_eq, List.length_cons, List.length_nil, FinR, evRes, evRVs, evRV, am, simprocAttr, tys]
        exact ⟨by omega, _, [], [], rfl, Ent.plain rfl rfl rfl trivial rfl, rfl, rfl⟩
    · have g1 : ((65536 : Int) ≤ ((n : Nat) : Int)) := by omega
      have b1 := bl_shift (n) 16 (by omega)
      rcases Nat.lt_or_ge (n / 2 ^ 16) 256 with h2 | h2
      · have g2 : ¬ ((256 : Int) ≤ ((n / 2 ^ 16 : Nat) : Int)) := by omega
        have hm : n / 2 ^ 16 < 256 := by omega
        have hb := bl8 (n / 2 ^ 16) hm
        have w1 : IntKind.u8.wrap ((n / 2 ^ 16 : Nat) : Int) = ((n / 2 ^ 16 : Nat) : Int) := by rw [IntKind.wrap_u8]; omega
        have w2 : IntKind.i64.wrap ((bl (n / 2 ^ 16) : Nat) : Int) = bl (n / 2 ^ 16) := IntWalk.i64_in _ (by omega)
        have w3 : IntKind.i64.wrap ((16 : Int) + bl (n / 2 ^ 16)) = bl n := by rw [IntWalk.i64_in _ (by omega)]; omega
        simp only [Try.f64, u64, sr64n _ 32 (by omega), sr64n _ 16 (by omega), sr64n _ 8 (by omega), g0, g1, g2, w1, w2, w3, bl_size, Int.natCast_nonneg, Int.toNat_natCast, tab_eq _ hm, bl_u8 _ hm, i64c, List.append_eq, List.length_cons, List.length_nil, FinR, evRes, evRVs, evRV, am, simprocAttr, tys]
        exact ⟨by omega, _, [], [], rfl, Ent.plain rfl rfl rfl trivial rfl, rfl, rfl⟩
      · have g2 : ((256 : Int) ≤ ((n / 2 ^ 16 : Nat) : Int)) := by omega
        have b2 := bl_shift (n / 2 ^ 16) 8 (by omega)
        have hm : (n / 2 ^ 16) / 2 ^ 8 < 256 := by omega
        have hb := bl8 ((n / 2 ^ 16) / 2 ^ 8) hm
        have w1 : IntKind.u8.wrap (((n / 2 ^ 16) / 2 ^ 8 : Nat) : Int) = (((n / 2 ^ 16) / 2 ^ 8 : Nat) : Int) := by rw [IntKind.wrap_u8]; omega
        have w2 : IntKind.i64.wrap ((bl ((n / 2 ^ 16) / 2 ^ 8) : Nat) : Int) = bl ((n / 2 ^ 16) / 2 ^ 8) := IntWalk.i64_in _ (by omega)
        have w3 : IntKind.i64.wrap ((24 : Int) + bl ((n / 2 ^ 16) / 2 ^ 8)) = bl n := by rw [IntWalk.i64_in _ (by omega)]; omega
        simp only [Try.f64, u64, sr64n _ 32 (by omega), sr64n _ 16 (by omega), sr64n _ 8 (by omega), g0, g1, g2, w1, w2, w3, bl_size, Int.natCast_nonneg, Int.toNat_natCast, tab_eq _ hm, bl_u8 _ hm, i64c, List.append_eq, List.length_cons, List.length_nil, FinR, evRes, evRVs, evRV, am, simprocAttr, tys]
        exact ⟨by omega, _, [], [], rfl, Ent.plain rfl rfl rfl trivial rfl, rfl, rfl⟩
  · have g0 : ((4294967296 : Int) ≤ ((n : Nat) : Int)) := by omega
    have b0 := bl_shift (n) 32 (by omega)
    rcases Nat.lt_or_ge (n / 2 ^ 32) 65536 with h1 | h1
    · have g1 : ¬ ((65536 : Int) ≤ ((n / 2 ^ 32 : Nat) : Int)) := by omega
      rcases Nat.lt_or_ge (n / 2 ^ 32) 256 with h2 | h2
      · have g2 : ¬ ((256 : Int) ≤ ((n / 2 ^ 32 : Nat) : Int)) := by omega
        have hm : n / 2 ^ 32 < 256 := by omega
        have hb := bl8 (n / 2 ^ 32) hm
        have w1 : IntKind.u8.wrap ((n / 2 ^ 32 : Nat) : Int) = ((n / 2 ^ 32 : Nat) : Int) := by rw [IntKind.wrap_u8]; omega
        have w2 : IntKind.i64.wrap ((bl (n / 2 ^ 32) : Nat) : Int) = bl (n / 2 ^ 32) := IntWalk.i64_in _ (by omega)
        have w3 : IntKind.i64.wrap ((32 : Int) + bl (n / 2 ^ 32)) = bl n := by rw [IntWalk.i64_in _ (by omega)]; omega
        simp only [Try.f64, u64, sr64n _ 32 (by omega), sr64n _ 16 (by omega), sr64n _ 8 (by omega), g0, g1, g2, w1, w2, w3, bl_size, Int.natCast_nonneg, Int.toNat_natCast, tab_eq _ hm, bl_u8 _ hm, i64c, List.append_eq, List.length_cons, List.length_nil, FinR, evRes, evRVs, evRV, am, simprocAttr, tys]
        exact ⟨by omega, _, [], [], rfl, Ent.plain rfl rfl rfl trivial rfl, rfl, rfl⟩
      · have g2 : ((256 : Int) ≤ ((n / 2 ^ 32 : Nat) : Int)) := by omega
        have b2 := bl_shift (n / 2 ^ 32) 8 (by omega)
        have hm : (n / 2 ^ 32) / 2 ^ 8 < 256 := by omega
        have hb := bl8 ((n / 2 ^ 32) / 2 ^ 8) hm
        have w1 : IntKind.u8.wrap (((n / 2 ^ 32) / 2 ^ 8 : Nat) : Int) = (((n / 2 ^ 32) / 2 ^ 8 : Nat) : Int) := by rw [IntKind.wrap_u8]; omega
        have w2 : IntKind.i64.wrap ((bl ((n / 2 ^ 32) / 2 ^ 8) : Nat) : Int) = bl ((n / 2 ^ 32) / 2 ^ 8) := IntWalk.i64_in _ (by omega)
        have w3 : IntKind.i64.wrap ((40 : Int) + bl ((n / 2 ^ 32) / 2 ^ 8)) = bl n := by rw [IntWalk.i64_in _ (by omega)]; omega
        simp only [Try.f64, u64, sr64n _ 32 (by omega), sr64n _ 16 (by omega), sr64n _ 8 (by omega), g0, g1, g2, w1, w2, w3, bl_size, Int.natCast_nonneg, Int.toNat_natCast, tab_eq _ hm, bl_u8 _ hm, i64c, List.append_eq, List.length_cons, List.length_nil, FinR, evRes, evRVs, evRV, am, simprocAttr, tys]
        exact ⟨by omega, _, [], [], rfl, Ent.plain rfl rfl rfl trivial rfl, rfl, rfl⟩
    · have g1 : ((65536 : Int) ≤ ((n / 2 ^ 32 : Nat) : Int)) := by omega
      have b1 := bl_shift (n / 2 ^ 32) 16 (by omega)
      rcases Nat.lt_or_ge ((n / 2 ^ 32) / 2 ^ 16) 256 with h2 | h2
      · have g2 : ¬ ((256 : Int) ≤ (((n / 2 ^ 32) / 2 ^ 16 : Nat) : Int)) := by omega
        have hm : (n / 2 ^ 32) / 2 ^ 16 < 256 := by omega
        have hb := bl8 ((n / 2 ^ 32) / 2 ^ 16) hm
        have w1 : IntKind.u8.wrap (((n / 2 ^ 32) / 2 ^ 16 : Nat) : Int) = (((n / 2 ^ 32) / 2 ^ 16 : Nat) : Int) := by rw [IntKind.wrap_u8]; omega
        have w2 : IntKind.i64.wrap ((bl ((n / 2 ^ 32) / 2 ^ 16) : Nat) : Int) = bl ((n / 2 ^ 32) / 2 ^ 16) := IntWalk.i64_in _ (by omega)
        have w3 : IntKind.i64.wrap ((48 : Int) + bl ((n / 2 ^ 32) / 2 ^ 16)) = bl n := by rw [IntWalk.i64_in _ (by omega)]; omega
        simp only [Try.f64, u64, sr64n _ 32 (by omega), sr64n _ 16 (by omega), sr64n _ 8 (by omega), g0, g1, g2, w1, w2, w3, bl_size, Int.natCast_nonneg, Int.toNat_natCast, tab_eq _ hm, bl_u8 _ hm, i64c, List.append_eq, List.length_cons, List.length_nil, FinR, evRes, evRVs, evRV, am, simprocAttr, tys]
        exact ⟨by omega, _, [], [], rfl, Ent.plain rfl rfl rfl trivial rfl, rfl, rfl⟩
      · have g2 : ((256 : Int) ≤ (((n / 2 ^ 32) / 2 ^ 16 : Nat) : Int)) := by omega
        have b2 := bl_shift ((n / 2 ^ 32) / 2 ^ 16) 8 (by omega)
        have hm : ((n / 2 ^ 32) / 2 ^ 16) / 2 ^ 8 < 256 := by omega
        have hb := bl8 (((n / 2 ^ 32) / 2 ^ 16) / 2 ^ 8) hm
        have w1 : IntKind.u8.wrap ((((n / 2 ^ 32) / 2 ^ 16) / 2 ^ 8 : Nat) : Int) = ((((n / 2 ^ 32) / 2 ^ 16) / 2 ^ 8 : Nat) : Int) := by rw [IntKind.wrap_u8]; omega
        have w2 : IntKind.i64.wrap ((bl (((n / 2 ^ 32) / 2 ^ 16) / 2 ^ 8) : Nat) : Int) = bl (((n / 2 ^ 32) / 2 ^ 16) / 2 ^ 8) := IntWalk.i64_in _ (by omega)
        have w3 : IntKind.i64.wrap ((56 : Int) + bl (((n / 2 ^ 32) / 2 ^ 16) / 2 ^ 8)) = bl n := by rw [IntWalk.i64_in _ (by omega)]; omega
        simp only [Try.f64, u64, sr64n _ 32 (by omega), sr64n _ 16 (by omega), sr64n _ 8 (by omega), g0, g1, g2, w1, w2, w3, bl_size, Int.natCast_nonneg, Int.toNat_natCast, tab_eq _ hm, bl_u8 _ hm, i64c, List.append_eq, List.length_cons, List.length_nil, FinR, evRes, evRVs, evRV, am, simprocAttr, tys]
        exact ⟨by omega, _, [], [], rfl, Ent.plain rfl rfl rfl trivial rfl, rfl, rfl⟩
end Go.Proofs.Ytflpphgccjlkjaa

set_option linter.unusedSimpArgs false
set_option linter.unusedVariables false
namespace Go.Proofs.Ytflpphgccjlkjaa
open Go Go.AM

/-! ## a taker: what is left, or bad -/
abbrev Tk := Option (List UInt8)
def tkC : Tk → List PV
  | some bs => [byts bs, bool false]
  | none => [.d (.lit (.slice none 0 0)), bool true]
theorem tkC_ren : (∀ σ t, renRow σ (.box (tkC t)) = .box (tkC t)) ∧ (∀ σ t, rens σ (tkC t) = tkC t) := by
  constructor <;> intro σ t <;> cases t <;> rfl
theorem tkC_row (rows : AM.Rows) (F : List Nat) (σ : Nat → Nat) (t : Tk) : frzRow rows F (.box (tkC t)) = renRow σ (.box (tkC t)) := by
  cases t <;> rfl
theorem tkC_s : (∀ bs, tkC (some bs) = [byts bs, bool false]) ∧ tkC none = [nilS, bool true] := ⟨fun _ => rfl, rfl⟩
theorem tkC_scs (n : Nat) (t : Tk) : scBs n (tkC t) = true := by
  cases t <;> rfl
def numT : Tk → Nat × Tk
  | none => (0, none)
  | some bs => match takeNum bs with | none => (0, none) | some (n, r) => (n, some r)
def textT (t : Tk) : List UInt8 × Tk := match (numT t).2 with
  | none => ([], none)
  | some r => if r.length < (numT t).1 then ([], none) else (r.take (numT t).1, some (r.drop (numT t).1))
def leftT : Tk → Nat | some bs => bs.length | none => 0
def endT : Tk → Int | some [] => 0 | _ => 6

theorem octsNew (b : List UInt8) (hl : b.length ≤ 100000000000000) : AFun Try.prog 39 [byts b] [] (.ptr 0 0) [.box (tkC (some b))] := by
  refine AFun.of_walk hP Try.func39 rfl rfl rfl (by simp) rfl ?_
  simp only [Try.f39, byts, FinR, evRes, evRVs, evRV, am, simprocAttr, tys]
  refine ⟨by omega, ?_⟩
  exact ⟨_, [1], [2], rfl, ⟨rfl, rfl, by simp, (fun i hi => absurd hi (Nat.not_lt_zero _)), trivial, ⟨.inr ⟨by decide, rfl⟩, trivial⟩, rfl, by decide, rfl, (by first | rfl | simp [scRow, tkC_scs])⟩, rfl, rfl⟩

theorem tkFail (t : Tk) : AFun Try.prog 65 [.ptr 0 0] [.box (tkC t)] (.tup []) [.box (tkC none)] := by
  refine AFun.of_walk hP Try.func65 rfl rfl rfl (by simp) rfl ?_
  rcases t with _ | bs
  · simp only [Try.f65, tkC, byts, bool, FinR, evRes, evRVs, evRV, am, simprocAttr, tys]
    exact ⟨_, [], [0], rfl, ⟨rfl, rfl, by simp, (fun i hi => .inr ((by decide : ∀ i, i < 1 → ([0] : List Nat).getD i 0 = i) i hi)), trivial, ⟨.inr ⟨by decide, rfl⟩, trivial⟩, rfl, by decide, rfl, (by first | rfl | simp [scRow, tkC_scs])⟩, rfl, rfl⟩
  · simp only [Try.f65, tkC, byts, bool, FinR, evRes, evRVs, evRV, am, simprocAttr, tys]
    exact ⟨_, [], [0], rfl, ⟨rfl, rfl, by simp, (fun i hi => .inr ((by decide : ∀ i, i < 1 → ([0] : List Nat).getD i 0 = i) i hi)), trivial, ⟨.inr ⟨by decide, rfl⟩, trivial⟩, rfl, by decide, rfl, (by first | rfl | simp [scRow, tkC_scs])⟩, rfl, rfl⟩

theorem tkLeft (t : Tk) : AFun Try.prog 41 [.ptr 0 0] [.box (tkC t)] (int (leftT t)) [.box (tkC t)] := by
  refine AFun.of_walk hP Try.func41 rfl rfl rfl (by simp) rfl ?_
  rcases t with _ | bs
  · simp only [Try.f41, tkC, byts, bool, FinR, evRes, evRVs, evRV, am, simprocAttr, tys]
    exact ⟨_, [], [0], rfl, ⟨rfl, rfl, by simp, (fun i hi => .inr ((by decide : ∀ i, i < 1 → ([0] : List Nat).getD i 0 = i) i hi)), trivial, ⟨.inr ⟨by decide, rfl⟩, trivial⟩, rfl, by decide, rfl, (by first | rfl | simp [scRow, tkC_scs])⟩, rfl, rfl⟩
  · simp only [Try.f41, tkC, byts, bool, FinR, evRes, evRVs, evRV, am, simprocAttr, tys]
    exact ⟨_, [], [0], rfl, ⟨rfl, rfl, by simp, (fun i hi => .inr ((by decide : ∀ i, i < 1 → ([0] : List Nat).getD i 0 = i) i hi)), trivial, ⟨.inr ⟨by decide, rfl⟩, trivial⟩, rfl, by decide, rfl, (by first | rfl | simp [scRow, tkC_scs])⟩, rfl, rfl⟩

/-! ### a number is taken -/
theorem acc_or (p : List UInt8) (c : UInt8) (h : p.length ≤ 8 ∨ p.length = 9 ∧ c.toNat ≤ 1) :
    evBits .or .u64 ((val p : Nat) : Int) (IntKind.u64.wrap (IntKind.u64.wrap (evBits .andNot .u8 (c.toNat : Int) 128) * 2 ^ min (7 * (p.length : Int)).toNat IntKind.u64.bits)) = ((val (p ++ [c]) : Nat) : Int) := by
  have key : ∀ m, m < 256 → (BitVec.ofNat 8 m &&& ~~~ 128#8).toNat = m % 128 := by decide +kernel
  have e1 : evBits .andNot .u8 (c.toNat : Int) 128 = ((c.toNat % 128 : Nat) : Int) := by
    show IntKind.u8.wrap ((BitVec.ofInt 8 (c.toNat : Int) &&& ~~~ BitVec.ofInt 8 128).toNat : Int) = _
    have e2 : BitVec.ofInt 8 (c.toNat : Int) = BitVec.ofNat 8 c.toNat := by simp
    have e3 : BitVec.ofInt 8 128 = 128#8 := rfl
    have := c.toNat_lt
    rw [e2, e3, key _ this, IntKind.wrap_u8]; omega
  have hm : c.toNat % 128 < 128 := Nat.mod_lt _ (by omega)
  have e4 : (7 * (p.length : Int)).toNat = 7 * p.length := by omega
  have e5 : min (7 * p.length) IntKind.u64.bits = 7 * p.length := by
    show min (7 * p.length) 64 = _
    omega
  have e6 : (128 : Nat) ^ p.length = 2 ^ (7 * p.length) := by rw [Nat.pow_mul]
  have hv := val_lt p
  have hb : c.toNat % 128 * 2 ^ (7 * p.length) + 2 ^ (7 * p.length) ≤ 18446744073709551616 := by
    rcases h with h | ⟨h, hc⟩
    · have h1 : c.toNat % 128 * 2 ^ (7 * p.length) + 2 ^ (7 * p.length) = (c.toNat % 128 + 1) * 2 ^ (7 * p.length) := by rw [Nat.add_mul, Nat.one_mul]
      have h2 : (c.toNat % 128 + 1) * 2 ^ (7 * p.length) ≤ 128 * 2 ^ (7 * p.length) := Nat.mul_le_mul_right _ (by omega)
      have h3 : 128 * 2 ^ (7 * p.length) = 2 ^ (7 * p.length + 7) := by rw [Nat.pow_add]; omega
      have h4 : 2 ^ (7 * p.length + 7) ≤ 9223372036854775808 := Nat.pow_le_pow_right (n := 2) (by omega) (show 7 * p.length + 7 ≤ 63 by omega)
      omega
    · have h3 : (2 : Nat) ^ (7 * p.length) = 9223372036854775808 := by rw [h]
      have : c.toNat % 128 ≤ 1 := by omega
      have h2 : c.toNat % 128 * 2 ^ (7 * p.length) ≤ 1 * 2 ^ (7 * p.length) := Nat.mul_le_mul_right _ this
      omega
  have hpos : 0 < 2 ^ (7 * p.length) := Nat.pow_pos (by omega)
  rw [e1, e4, e5, IntWalk.u64_in ((c.toNat % 128 : Nat) : Int) (by omega)]
  have e10 := val_snoc p c
  rw [e6, Nat.mul_comm] at e10
  rw [e6] at hv
  have e11 := Nat.shiftLeft_add_eq_or_of_lt hv (c.toNat % 128)
  rw [Nat.shiftLeft_eq] at e11
  have e7 : (((c.toNat % 128 : Nat) : Int) * 2 ^ (7 * p.length)) = ((c.toNat % 128 * 2 ^ (7 * p.length) : Nat) : Int) := by simp
  rw [e7]
  generalize c.toNat % 128 * 2 ^ (7 * p.length) = q at *
  generalize 2 ^ (7 * p.length) = z at *
  have e8 : ((val p : Nat) : Int) = (((BitVec.ofNat 64 (val p)).toNat : Nat) : Int) := by
    rw [BitVec.toNat_ofNat, Nat.mod_eq_of_lt (by omega)]
  have e9 : ((q : Nat) : Int) = (((BitVec.ofNat 64 q).toNat : Nat) : Int) := by
    rw [BitVec.toNat_ofNat, Nat.mod_eq_of_lt (by omega)]
  rw [IntWalk.u64_in (q : Int) (by omega), e8, e9, o64, BitVec.toNat_or, BitVec.toNat_ofNat, BitVec.toNat_ofNat, Nat.mod_eq_of_lt (show val p < 2 ^ 64 by omega), Nat.mod_eq_of_lt (show q < 2 ^ 64 by omega), e10, Nat.or_comm, ← e11, Nat.add_comm]

theorem and128 (c : UInt8) : (evBits .and .u8 (c.toNat : Int) 128 != 0) = isC c := by
  have key : ∀ m, m < 256 → ((((BitVec.ofNat 8 m &&& 128#8).toNat : Nat) : Int) != 0) = decide (128 ≤ m) := by decide +kernel
  have e : evBits .and .u8 (c.toNat : Int) 128 = (((c.toBitVec &&& 128#8).toNat : Nat) : Int) := n8 c.toBitVec 128#8
  have e2 : c.toBitVec = BitVec.ofNat 8 c.toNat := by apply BitVec.eq_of_toNat_eq; rw [BitVec.toNat_ofNat, Nat.mod_eq_of_lt c.toNat_lt]; rfl
  rw [e, e2, key _ c.toNat_lt]; rfl

theorem val_snoc_bl (p : List UInt8) (c : UInt8) (hc : c.toNat < 128) (hl : p.length ≤ 9) : max 1 ((bl (val (p ++ [c])) + 6) / 7) = p.length + 1 ↔ (p = [] ∨ c.toNat ≠ 0) := by
  have hv := val_lt p
  have e6 : (128 : Nat) ^ p.length = 2 ^ (7 * p.length) := by rw [Nat.pow_mul]
  rw [e6] at hv
  have es := val_snoc p c
  rw [Nat.mod_eq_of_lt hc, e6] at es
  by_cases h0 : c.toNat = 0
  · rw [h0, Nat.mul_zero, Nat.add_zero] at es
    by_cases hp : p = []
    · subst hp
      simp only [val] at es
      rw [es]
      simp [bl]
    · have hpos : 0 < p.length := by cases p <;> simp at hp ⊢
      have hb := (bl_le (val (p ++ [c])) (7 * p.length)).2 (by omega)
      constructor
      · intro h; omega
      · intro h; rcases h with h | h
        · exact absurd h hp
        · exact absurd h0 h
  · have hpos : 0 < 2 ^ (7 * p.length) := Nat.pow_pos (by omega)
    have h1 : 2 ^ (7 * p.length) ≤ val (p ++ [c]) := by
      have : 2 ^ (7 * p.length) * 1 ≤ 2 ^ (7 * p.length) * c.toNat := Nat.mul_le_mul_left _ (by omega)
      omega
    have h2 : val (p ++ [c]) < 2 ^ (7 * p.length + 7) := by
      rw [Nat.pow_add]
      have : 2 ^ (7 * p.length) * c.toNat ≤ 2 ^ (7 * p.length) * 127 := Nat.mul_le_mul_left _ (by omega)
      omega
    have hb1 := (bl_le (val (p ++ [c])) (7 * p.length + 7)).2 h2
    have hb2 : ¬ bl (val (p ++ [c])) ≤ 7 * p.length := fun h => by have := (bl_le _ _).1 h; omega
    constructor
    · intro _; exact .inr h0
    · intro _; omega
theorem numT_lt (t : Tk) (h : ∀ bs, t = some bs → bs.length ≤ 100000000000000) : (numT t).1 < 18446744073709551616 ∧ ∀ r, (numT t).2 = some r → r.length ≤ 100000000000000 := by
  rcases t with _ | bs
  · exact ⟨by simp [numT], by simp [numT]⟩
  · rcases hk : takeNum bs with _ | ⟨n, r⟩
    · simp only [numT, hk]
      exact ⟨by omega, fun r hr => by cases hr⟩
    · obtain ⟨h1, h2⟩ := takeNum_some hk
      simp only [numT, hk]
      refine ⟨h1, fun r' hr => ?_⟩
      simp only [Option.some.injEq] at hr
      subst hr
      have := h bs rfl
      have := congrArg List.length h2
      simp only [List.length_append] at this
      omega

theorem numT_none (t : Tk) (h : (numT t).2 = none) : (numT t).1 = 0 := by
  rcases t with _ | bs
  · rfl
  · rcases hk : takeNum bs with _ | ⟨n, r⟩
    · simp only [numT, hk]
    · simp only [numT, hk] at h
      cases h

end Go.Proofs.Ytflpphgccjlkjaa

set_option linter.unusedSimpArgs false
set_option linter.unusedVariables false
namespace Go.Proofs.Ytflpphgccjlkjaa
open Go Go.AM

theorem takeNum_stop9 (bs : List UInt8) (i : Nat) (hi : i = 9) (hp : (bs.take i).all isC = true) (c : UInt8) (hc : bs[i]? = some c) (h1 : 1 < c.toNat) : takeNum bs = none := by
  subst hi
  have hlt : 9 < bs.length := by
    rcases Nat.lt_or_ge 9 bs.length with h | h
    · exact h
    · rw [List.getElem?_eq_none h] at hc; cases hc
  have e : bs = bs.take 9 ++ c :: bs.drop 10 := by
    conv => lhs; rw [← List.take_append_drop 9 bs]
    rw [List.drop_eq_getElem_cons hlt]
    rw [List.getElem?_eq_getElem hlt] at hc
    cases hc; rfl
  rw [e]
  exact takeNum_nine _ _ _ hp (by rw [List.length_take]; omega) h1

theorem takeNum_cut (bs : List UInt8) (i : Nat) (hlt : i < bs.length) (hp : (bs.take i).all isC = true) (hc : bs[i].toNat < 128) :
    takeNum bs = if (i = 0 ∨ bs[i].toNat ≠ 0) ∧ val (bs.take (i + 1)) < 18446744073709551616 then some (val (bs.take (i + 1)), bs.drop (i + 1)) else none := by
  have e : bs = bs.take i ++ bs[i] :: bs.drop (i + 1) := by
    conv => lhs; rw [← List.take_append_drop i bs]
    rw [List.drop_eq_getElem_cons hlt]
  have e2 : bs.take (i + 1) = bs.take i ++ [bs[i]] := List.take_succ_eq_append_getElem hlt
  have e3 : (bs.take i = []) ↔ i = 0 := by
    rw [List.take_eq_nil_iff]
    constructor
    · rintro (h | h)
      · exact h
      · subst h; simp at hlt
    · exact .inl
  conv => lhs; rw [e]
  rw [takeNum_at _ _ _ hp hc, e2]
  simp only [e3]

theorem val_take_lt (bs : List UInt8) (i : Nat) (hlt : i < bs.length) (h : i ≤ 8 ∨ i = 9 ∧ bs[i].toNat ≤ 1) : val (bs.take (i + 1)) < 18446744073709551616 := by
  rw [List.take_succ_eq_append_getElem hlt, val_snoc]
  have hv := val_lt (bs.take i)
  have hl : (bs.take i).length = i := by rw [List.length_take]; omega
  rw [hl] at hv ⊢
  have hm : bs[i].toNat % 128 < 128 := Nat.mod_lt _ (by omega)
  rcases h with h | ⟨h, hc⟩
  · have h1 : (128 : Nat) ^ i * (bs[i].toNat % 128) ≤ 128 ^ i * 127 := Nat.mul_le_mul_left _ (by omega)
    have h2 : (128 : Nat) ^ i ≤ 72057594037927936 := Nat.pow_le_pow_right (n := 128) (by omega) (show i ≤ 8 by omega)
    omega
  · have h2 : (128 : Nat) ^ i = 9223372036854775808 := by rw [h]
    have h1 : (128 : Nat) ^ i * (bs[i].toNat % 128) ≤ 128 ^ i * 1 := Nat.mul_le_mul_left _ (by omega)
    omega

theorem tkNum (t : Tk) (hl : ∀ bs, t = some bs → bs.length ≤ 100000000000000) : AFun Try.prog 40 [.ptr 0 0] [.box (tkC t)] (u64 (numT t).1) [.box (tkC (numT t).2)] := by
  refine AFun.of_walk hP Try.func40 rfl rfl rfl (by simp) rfl ?_
  rcases t with _ | bs
  · simp only [Try.f40, tkC, byts, bool, u64, numT, am, simprocAttr, tys]
    refine ALoopW.intro 62 1 (ι := Unit) (fun i => [(0, .ptr 0 0), (11, .d (.lit (.slice none 0 0))), (12, .d (.lit (.int .i64 0))), (13, .d (.lit (.int .i64 0)))]) (fun _ => [.box [.d (.lit (.slice none 0 0)), .d (.lit (.bool true))]]) (fun _ => 0) () [] [0] ?_ (fun _ => ?_)
    · exact ⟨rfl, rfl, by simp, (fun i hi => .inr ((by decide : ∀ i, i < 1 → ([0] : List Nat).getD i 0 = i) i hi)), ⟨.inr rfl, .inr rfl, .inr rfl, .inr rfl, trivial⟩, ⟨.inr ⟨by decide, rfl⟩, trivial⟩, rfl, by decide, rfl, (by first | rfl | simp [scRow, tkC_scs])⟩
    simp only [am, simprocAttr, tys]
    refine ACall.of (tkFail none) [0] [] rfl (by simp) (by simp) (by simp) (by repeat' (first | exact trivial | exact .inl rfl | exact .inr rfl | exact .inr ⟨rfl, rfl, rfl, by simp; done⟩ | exact .inr ⟨rfl, by simp; done⟩ | exact .inr ⟨rfl, rfl, by simp; done⟩ | apply And.intro)) (by repeat' (first | exact trivial | rfl | exact (tkC_ren.1 _ _).symm | (simp; done) | apply And.intro)) (by first | exact .inl rfl | (refine .inr ⟨trivial, ?_⟩; first | (intro row h; rcases List.mem_singleton.1 h with rfl; exact nvB _) | (intro row h; cases h; done) | (simp; done)) | (refine .inr ⟨by simp [nvP, nvP.nvPs, nvD, nilS, errno], ?_⟩; first | (intro row h; rcases List.mem_singleton.1 h with rfl; exact nvB _) | (intro row h; cases h; done) | (simp [nvRow, nvD, nvP]; done))) ?_
    simp only [tkC, bool, FinR, evRes, evRVs, evRV, am, simprocAttr, tys]
    exact ⟨_, [], [0], rfl, ⟨rfl, rfl, by simp, (fun i hi => .inr ((by decide : ∀ i, i < 1 → ([0] : List Nat).getD i 0 = i) i hi)), trivial, ⟨.inr ⟨by decide, rfl⟩, trivial⟩, rfl, by decide, rfl, (by first | rfl | simp [scRow, tkC_scs])⟩, rfl, rfl⟩
  · have hbl := hl bs rfl
    simp only [Try.f40, tkC, byts, bool, u64, am, simprocAttr, tys]
    refine ALoopW.intro 62 1 (ι := { i : Nat // i ≤ 9 ∧ i ≤ bs.length ∧ (bs.take i).all isC = true }) (fun i => [(0, .ptr 0 0), (3, .d (.lit (.int .u64 (val (bs.take i.1))))), (11, .d (.sl 1 (bs.map encB))), (12, .d (.lit (.int .i64 bs.length))), (13, .d (.lit (.int .i64 i.1)))]) (fun _ => [.box [.d (.sl 1 (bs.map encB)), .d (.lit (.bool false))]]) (fun i => bs.length - i.1) ⟨0, by omega, by omega, by simp⟩ [] [0] ?_ (fun ⟨i, hi9, hi, hall⟩ => ?_)
    · exact ⟨rfl, rfl, by simp, (fun i hi => .inr ((by decide : ∀ i, i < 1 → ([0] : List Nat).getD i 0 = i) i hi)), ⟨.inr rfl, .inr rfl, .inr rfl, .inr rfl, .inr rfl, trivial⟩, ⟨.inr ⟨by decide, rfl⟩, trivial⟩, rfl, by decide, rfl, (by first | rfl | simp [scRow, tkC_scs])⟩
    have hil : (bs.take i).length = i := by rw [List.length_take]; omega
    rcases Nat.lt_or_ge i bs.length with hlt | hge
    · have hb : bs[i]? = some bs[i] := List.getElem?_eq_getElem hlt
      have hlt2 : ((i : Int) < bs.length) := by omega
      have e1 : IntKind.i64.wrap ((i : Int) + 1) = ((i + 1 : Nat) : Int) := by rw [IntWalk.i64_in _ (by omega)]; simp
      have e7 : IntKind.i64.wrap (7 * (i : Int)) = 7 * (i : Int) := IntWalk.i64_in _ (by omega)
      have h10 : ((i : Int) == 10) = false := by rw [beq_eq_false_iff_ne]; omega
      have e70 : ((0 : Int) ≤ 7 * (i : Int)) := by omega
      by_cases h9 : i = 9 ∧ 1 < bs[i].toNat
      · obtain ⟨h9, hc⟩ := h9
        have hcI : ((1 : Int) < bs[i].toNat) := by omega
        have ht := takeNum_stop9 bs i h9 hall _ hb hc
        have h9b : ((i : Int) == 9) = true := by rw [beq_iff_eq]; omega
        simp only [hb, hlt2, encB, h10, h9b, hcI, Int.natCast_nonneg, am, simprocAttr, tys]
        refine ACall.of (tkFail (some bs)) [0] [] rfl (by simp) (by simp) (by simp) (by repeat' (first | exact trivial | exact .inl rfl | exact .inr rfl | exact .inr ⟨rfl, rfl, rfl, by simp; done⟩ | exact .inr ⟨rfl, by simp; done⟩ | exact .inr ⟨rfl, rfl, by simp; done⟩ | apply And.intro)) (by repeat' (first | exact trivial | rfl | exact (tkC_ren.1 _ _).symm | (simp; done) | apply And.intro)) (by first | exact .inl rfl | (refine .inr ⟨trivial, ?_⟩; first | (intro row h; rcases List.mem_singleton.1 h with rfl; exact nvB _) | (intro row h; cases h; done) | (simp; done)) | (refine .inr ⟨by simp [nvP, nvP.nvPs, nvD, nilS, errno], ?_⟩; first | (intro row h; rcases List.mem_singleton.1 h with rfl; exact nvB _) | (intro row h; cases h; done) | (simp [nvRow, nvD, nvP]; done))) ?_
        simp only [ht, numT, tkC, bool, FinR, evRes, evRVs, evRV, am, simprocAttr, tys]
        exact ⟨_, [], [0], rfl, ⟨rfl, rfl, by simp, (fun i hi => .inr ((by decide : ∀ i, i < 1 → ([0] : List Nat).getD i 0 = i) i hi)), trivial, ⟨.inr ⟨by decide, rfl⟩, trivial⟩, rfl, by decide, rfl, (by first | rfl | simp [scRow, tkC_scs])⟩, rfl, rfl⟩
      · have hor : i ≤ 8 ∨ i = 9 ∧ bs[i].toNat ≤ 1 := by omega
        have hacc := acc_or (bs.take i) bs[i] (by rw [hil]; exact hor)
        rw [hil, ← List.take_succ_eq_append_getElem hlt] at hacc
        have hvl := val_take_lt bs i hlt hor
        have hlen2 : (bs.take (i + 1)).length = i + 1 := by rw [List.length_take]; omega
        -- what is asked at the head
        have hcond : (if ((i : Int) == 9) = true then decide ((1 : Int) < (bs[i].toNat : Int)) else false) = false := by
          split
          · rename_i h
            have : i = 9 := by have := eq_of_beq h; omega
            rw [decide_eq_false_iff_not]; omega
          · rfl
        by_cases hc : isC bs[i] = true
        · have hc' : 128 ≤ bs[i].toNat := of_decide_eq_true hc
          by_cases hi9' : (i : Int) = 9
          · exfalso; omega
          · have h9b : ((i : Int) == 9) = false := by rw [beq_eq_false_iff_ne]; exact hi9'
            simp only [hb, hlt2, encB, h10, h9b, e7, e70, hacc, and128, hc, e1, Int.natCast_nonneg, am, simprocAttr, tys]
            refine ⟨⟨i + 1, by omega, by omega, ?_⟩, [], [0], ⟨rfl, rfl, by simp, (fun i hi => .inr ((by decide : ∀ i, i < 1 → ([0] : List Nat).getD i 0 = i) i hi)), ⟨.inr rfl, .inr rfl, .inr rfl, .inr rfl, .inr rfl, trivial⟩, ⟨.inr ⟨by decide, rfl⟩, trivial⟩, rfl, by decide, rfl, (by first | rfl | simp [scRow, tkC_scs])⟩, by show bs.length - (i + 1) < bs.length - i; omega⟩
            rw [List.take_succ_eq_append_getElem hlt]
            simp only [List.all_append, hall, List.all_cons, List.all_nil, hc, Bool.and_self]
        · have hc' : bs[i].toNat < 128 := by
            have : ¬ 128 ≤ bs[i].toNat := fun h => hc (decide_eq_true h)
            omega
          have hcf : isC bs[i] = false := by simpa using hc
          have hcut := takeNum_cut bs i hlt hall hc'
          have hbl := val_snoc_bl (bs.take i) bs[i] hc' (by rw [hil]; omega)
          rw [hil, ← List.take_succ_eq_append_getElem hlt] at hbl
          have hb64 := (bl_le (val (bs.take (i + 1))) 64).2 (by omega)
          have e2 : IntKind.i64.wrap ((bl (val (bs.take (i + 1))) : Int) + 7) = ((bl (val (bs.take (i + 1))) + 7 : Nat) : Int) := by rw [IntWalk.i64_in _ (by omega)]; simp
          have e3 : IntKind.i64.wrap (((bl (val (bs.take (i + 1))) + 7 : Nat) : Int) - 1) = ((bl (val (bs.take (i + 1))) + 6 : Nat) : Int) := by rw [IntWalk.i64_in _ (by omega)]; omega
          have e4 : IntKind.i64.wrap ((((bl (val (bs.take (i + 1))) + 6 : Nat) : Int)).tdiv 7) = (((bl (val (bs.take (i + 1))) + 6) / 7 : Nat) : Int) := by
            have : (((bl (val (bs.take (i + 1))) + 6 : Nat) : Int)).tdiv 7 = (((bl (val (bs.take (i + 1))) + 6) / 7 : Nat) : Int) := rfl
            rw [this, IntWalk.i64_in _ (by omega)]
          have e5 : (((i + 1 : Nat) : Int) != (if (1 : Int) < (((bl (val (bs.take (i + 1))) + 6) / 7 : Nat) : Int) then (((bl (val (bs.take (i + 1))) + 6) / 7 : Nat) : Int) else 1)) = !(decide (i = 0 ∨ bs[i].toNat ≠ 0)) := by
            have e3 : (bs.take i = []) ↔ i = 0 := by
              rw [List.take_eq_nil_iff]
              constructor
              · rintro (h | h)
                · exact h
                · subst h; simp at hlt
              · exact .inl
            rw [e3] at hbl
            rw [← decide_eq_decide.2 hbl, bne, Bool.not_inj_iff, Bool.eq_iff_iff, beq_iff_eq, decide_eq_true_eq]
            split <;> omega
          rcases hok : decide (i = 0 ∨ bs[i].toNat ≠ 0) with _ | _
          · rw [hok] at e5
            rw [decide_eq_false_iff_not] at hok
            rw [if_neg (fun h => hok h.1)] at hcut
            rcases h9b : ((i : Int) == 9) with _ | _
            · simp only [hb, hlt2, encB, h10, h9b, e7, e70, hacc, and128, hcf, e1, Int.natCast_nonneg, am, simprocAttr, tys]
              refine ACall.of (len64 (val (bs.take (i + 1))) hvl) [] [] rfl (by simp) (by simp) (by simp) (by repeat' (first | exact trivial | exact .inl rfl | exact .inr rfl | exact .inr ⟨rfl, rfl, rfl, by simp; done⟩ | exact .inr ⟨rfl, by simp; done⟩ | exact .inr ⟨rfl, rfl, by simp; done⟩ | apply And.intro)) (by repeat' (first | exact trivial | rfl | exact (tkC_ren.1 _ _).symm | (simp; done) | apply And.intro)) (by first | exact .inl rfl | (refine .inr ⟨trivial, ?_⟩; first | (intro row h; rcases List.mem_singleton.1 h with rfl; exact nvB _) | (intro row h; cases h; done) | (simp; done)) | (refine .inr ⟨by simp [nvP, nvP.nvPs, nvD, nilS, errno], ?_⟩; first | (intro row h; rcases List.mem_singleton.1 h with rfl; exact nvB _) | (intro row h; cases h; done) | (simp [nvRow, nvD, nvP]; done))) ?_
              simp only [int, e2, e3, e4, e5, am, simprocAttr, tys]
              refine ACall.of (tkFail (some bs)) [0] [] rfl (by simp) (by simp) (by simp) (by repeat' (first | exact trivial | exact .inl rfl | exact .inr rfl | exact .inr ⟨rfl, rfl, rfl, by simp; done⟩ | exact .inr ⟨rfl, by simp; done⟩ | exact .inr ⟨rfl, rfl, by simp; done⟩ | apply And.intro)) (by repeat' (first | exact trivial | rfl | exact (tkC_ren.1 _ _).symm | (simp; done) | apply And.intro)) (by first | exact .inl rfl | (refine .inr ⟨trivial, ?_⟩; first | (intro row h; rcases List.mem_singleton.1 h with rfl; exact nvB _) | (intro row h; cases h; done) | (simp; done)) | (refine .inr ⟨by simp [nvP, nvP.nvPs, nvD, nilS, errno], ?_⟩; first | (intro row h; rcases List.mem_singleton.1 h with rfl; exact nvB _) | (intro row h; cases h; done) | (simp [nvRow, nvD, nvP]; done))) ?_
              simp only [hcut, numT, tkC, bool, FinR, evRes, evRVs, evRV, am, simprocAttr, tys]
              exact ⟨_, [], [0], rfl, ⟨rfl, rfl, by simp, (fun i hi => .inr ((by decide : ∀ i, i < 1 → ([0] : List Nat).getD i 0 = i) i hi)), trivial, ⟨.inr ⟨by decide, rfl⟩, trivial⟩, rfl, by decide, rfl, (by first | rfl | simp [scRow, tkC_scs])⟩, rfl, rfl⟩
            · have h1 : ¬ ((1 : Int) < (bs[i].toNat : Int)) := by
                have : (i : Int) = 9 := eq_of_beq h9b
                omega
              simp only [hb, hlt2, encB, h10, h9b, h1, e7, e70, hacc, and128, hcf, e1, Int.natCast_nonneg, am, simprocAttr, tys]
              refine ACall.of (len64 (val (bs.take (i + 1))) hvl) [] [] rfl (by simp) (by simp) (by simp) (by repeat' (first | exact trivial | exact .inl rfl | exact .inr rfl | exact .inr ⟨rfl, rfl, rfl, by simp; done⟩ | exact .inr ⟨rfl, by simp; done⟩ | exact .inr ⟨rfl, rfl, by simp; done⟩ | apply And.intro)) (by repeat' (first | exact trivial | rfl | exact (tkC_ren.1 _ _).symm | (simp; done) | apply And.intro)) (by first | exact .inl rfl | (refine .inr ⟨trivial, ?_⟩; first | (intro row h; rcases List.mem_singleton.1 h with rfl; exact nvB _) | (intro row h; cases h; done) | (simp; done)) | (refine .inr ⟨by simp [nvP, nvP.nvPs, nvD, nilS, errno], ?_⟩; first | (intro row h; rcases List.mem_singleton.1 h with rfl; exact nvB _) | (intro row h; cases h; done) | (simp [nvRow, nvD, nvP]; done))) ?_
              simp only [int, e2, e3, e4, e5, am, simprocAttr, tys]
              refine ACall.of (tkFail (some bs)) [0] [] rfl (by simp) (by simp) (by simp) (by repeat' (first | exact trivial | exact .inl rfl | exact .inr rfl | exact .inr ⟨rfl, rfl, rfl, by simp; done⟩ | exact .inr ⟨rfl, by simp; done⟩ | exact .inr ⟨rfl, rfl, by simp; done⟩ | apply And.intro)) (by repeat' (first | exact trivial | rfl | exact (tkC_ren.1 _ _).symm | (simp; done) | apply And.intro)) (by first | exact .inl rfl | (refine .inr ⟨trivial, ?_⟩; first | (intro row h; rcases List.mem_singleton.1 h with rfl; exact nvB _) | (intro row h; cases h; done) | (simp; done)) | (refine .inr ⟨by simp [nvP, nvP.nvPs, nvD, nilS, errno], ?_⟩; first | (intro row h; rcases List.mem_singleton.1 h with rfl; exact nvB _) | (intro row h; cases h; done) | (simp [nvRow, nvD, nvP]; done))) ?_
              simp only [hcut, numT, tkC, bool, FinR, evRes, evRVs, evRV, am, simprocAttr, tys]
              exact ⟨_, [], [0], rfl, ⟨rfl, rfl, by simp, (fun i hi => .inr ((by decide : ∀ i, i < 1 → ([0] : List Nat).getD i 0 = i) i hi)), trivial, ⟨.inr ⟨by decide, rfl⟩, trivial⟩, rfl, by decide, rfl, (by first | rfl | simp [scRow, tkC_scs])⟩, rfl, rfl⟩
          · rw [hok] at e5
            rw [decide_eq_true_eq] at hok
            rw [if_pos ⟨hok, hvl⟩] at hcut
            have hle : ((i + 1 : Nat) : Int) ≤ bs.length := by omega
            rcases h9b : ((i : Int) == 9) with _ | _
            · simp only [hb, hlt2, encB, h10, h9b, e7, e70, hacc, and128, hcf, e1, Int.natCast_nonneg, am, simprocAttr, tys]
              refine ACall.of (len64 (val (bs.take (i + 1))) hvl) [] [] rfl (by simp) (by simp) (by simp) (by repeat' (first | exact trivial | exact .inl rfl | exact .inr rfl | exact .inr ⟨rfl, rfl, rfl, by simp; done⟩ | exact .inr ⟨rfl, by simp; done⟩ | exact .inr ⟨rfl, rfl, by simp; done⟩ | apply And.intro)) (by repeat' (first | exact trivial | rfl | exact (tkC_ren.1 _ _).symm | (simp; done) | apply And.intro)) (by first | exact .inl rfl | (refine .inr ⟨trivial, ?_⟩; first | (intro row h; rcases List.mem_singleton.1 h with rfl; exact nvB _) | (intro row h; cases h; done) | (simp; done)) | (refine .inr ⟨by simp [nvP, nvP.nvPs, nvD, nilS, errno], ?_⟩; first | (intro row h; rcases List.mem_singleton.1 h with rfl; exact nvB _) | (intro row h; cases h; done) | (simp [nvRow, nvD, nvP]; done))) ?_
              simp only [int, e2, e3, e4, e5, e1, hcut, numT, tkC, byts, bool, ← List.map_take, ← List.map_drop, List.take_length, FinR, evRes, evRVs, evRV, am, simprocAttr, tys]
              exact ⟨by omega, ⟨_, [], [0], rfl, ⟨rfl, rfl, by simp, (fun i hi => .inr ((by decide : ∀ i, i < 1 → ([0] : List Nat).getD i 0 = i) i hi)), trivial, ⟨.inr ⟨by decide, rfl⟩, trivial⟩, rfl, by decide, rfl, (by first | rfl | simp [scRow, tkC_scs])⟩, rfl, rfl⟩⟩
            · have h1 : ¬ ((1 : Int) < (bs[i].toNat : Int)) := by
                have : (i : Int) = 9 := eq_of_beq h9b
                omega
              simp only [hb, hlt2, encB, h10, h9b, h1, e7, e70, hacc, and128, hcf, e1, Int.natCast_nonneg, am, simprocAttr, tys]
              refine ACall.of (len64 (val (bs.take (i + 1))) hvl) [] [] rfl (by simp) (by simp) (by simp) (by repeat' (first | exact trivial | exact .inl rfl | exact .inr rfl | exact .inr ⟨rfl, rfl, rfl, by simp; done⟩ | exact .inr ⟨rfl, by simp; done⟩ | exact .inr ⟨rfl, rfl, by simp; done⟩ | apply And.intro)) (by repeat' (first | exact trivial | rfl | exact (tkC_ren.1 _ _).symm | (simp; done) | apply And.intro)) (by first | exact .inl rfl | (refine .inr ⟨trivial, ?_⟩; first | (intro row h; rcases List.mem_singleton.1 h with rfl; exact nvB _) | (intro row h; cases h; done) | (simp; done)) | (refine .inr ⟨by simp [nvP, nvP.nvPs, nvD, nilS, errno], ?_⟩; first | (intro row h; rcases List.mem_singleton.1 h with rfl; exact nvB _) | (intro row h; cases h; done) | (simp [nvRow, nvD, nvP]; done))) ?_
              simp only [int, e2, e3, e4, e5, e1, hcut, numT, tkC, byts, bool, ← List.map_take, ← List.map_drop, List.take_length, FinR, evRes, evRVs, evRV, am, simprocAttr, tys]
              exact ⟨by omega, ⟨_, [], [0], rfl, ⟨rfl, rfl, by simp, (fun i hi => .inr ((by decide : ∀ i, i < 1 → ([0] : List Nat).getD i 0 = i) i hi)), trivial, ⟨.inr ⟨by decide, rfl⟩, trivial⟩, rfl, by decide, rfl, (by first | rfl | simp [scRow, tkC_scs])⟩, rfl, rfl⟩⟩
    · have hlt2 : ¬ ((i : Int) < bs.length) := by omega
      have hi' : i = bs.length := by omega
      have ht : takeNum bs = none := takeNum_all bs (by rw [hi', List.take_length] at hall; exact hall)
      simp only [hlt2, am, simprocAttr, tys]
      refine ACall.of (tkFail (some bs)) [0] [] rfl (by simp) (by simp) (by simp) (by repeat' (first | exact trivial | exact .inl rfl | exact .inr rfl | exact .inr ⟨rfl, rfl, rfl, by simp; done⟩ | exact .inr ⟨rfl, by simp; done⟩ | exact .inr ⟨rfl, rfl, by simp; done⟩ | apply And.intro)) (by repeat' (first | exact trivial | rfl | exact (tkC_ren.1 _ _).symm | (simp; done) | apply And.intro)) (by first | exact .inl rfl | (refine .inr ⟨trivial, ?_⟩; first | (intro row h; rcases List.mem_singleton.1 h with rfl; exact nvB _) | (intro row h; cases h; done) | (simp; done)) | (refine .inr ⟨by simp [nvP, nvP.nvPs, nvD, nilS, errno], ?_⟩; first | (intro row h; rcases List.mem_singleton.1 h with rfl; exact nvB _) | (intro row h; cases h; done) | (simp [nvRow, nvD, nvP]; done))) ?_
      simp only [ht, numT, tkC, bool, FinR, evRes, evRVs, evRV, am, simprocAttr, tys]
      exact ⟨_, [], [0], rfl, ⟨rfl, rfl, by simp, (fun i hi => .inr ((by decide : ∀ i, i < 1 → ([0] : List Nat).getD i 0 = i) i hi)), trivial, ⟨.inr ⟨by decide, rfl⟩, trivial⟩, rfl, by decide, rfl, (by first | rfl | simp [scRow, tkC_scs])⟩, rfl, rfl⟩
end Go.Proofs.Ytflpphgccjlkjaa

set_option linter.unusedSimpArgs false
set_option linter.unusedVariables false
namespace Go.Proofs.Ytflpphgccjlkjaa
open Go Go.AM

theorem takeNum_eq (bs : List UInt8) (i n : Nat) (hn : n < 18446744073709551616) (h : leb n = bs.take i) : takeNum bs = some (n, bs.drop i) := by
  conv => lhs; rw [← List.take_append_drop i bs]
  rw [← h, takeNum_leb n _ hn]

theorem takeNum_ne (bs : List UInt8) (i : Nat) (hlt : i < bs.length) (hp : (bs.take i).all isC = true) (hc : bs[i].toNat < 128) (h : leb (val (bs.take (i + 1)) % 18446744073709551616) ≠ bs.take (i + 1)) : takeNum bs = none := by
  rcases hk : takeNum bs with _ | ⟨m, r⟩
  · rfl
  · exfalso
    obtain ⟨h1, h2⟩ := takeNum_some hk
    have e : bs = bs.take i ++ bs[i] :: bs.drop (i + 1) := by
      conv => lhs; rw [← List.take_append_drop i bs]
      rw [List.drop_eq_getElem_cons hlt]
    have e2 : bs.take (i + 1) = bs.take i ++ [bs[i]] := List.take_succ_eq_append_getElem hlt
    obtain ⟨p, c, g1, g2, g3, g4⟩ := leb_shape m
    have s1 := isC_span (bs.take i) bs[i] (bs.drop (i + 1)) hp hc
    rw [← e] at s1
    have s2 := isC_span p c r g2 g3
    have e3 : p ++ c :: r = bs := by rw [h2, g1]; simp
    rw [e3] at s2
    have f1 : bs.take i = p := s1.1.symm.trans s2.1
    have f2 : bs[i] = c := by
      have := s1.2.symm.trans s2.2
      simp only [List.cons.injEq] at this
      exact this.1
    apply h
    have e4 : bs.take (i + 1) = leb m := by rw [e2, f1, f2, g1]
    rw [e4, val_leb, Nat.mod_eq_of_lt h1]

theorem refFail (t : Tk) : AFun Try.prog 67 [.ptr 0 0] [.box (tkC t)] (.tup []) [.box (tkC none)] := by
  refine AFun.of_walk hP Try.func67 rfl rfl rfl (by simp) rfl ?_
  rcases t with _ | bs
  · simp only [Try.f67, tkC, byts, bool, FinR, evRes, evRVs, evRV, am, simprocAttr, tys]
    exact ⟨_, [], [0], rfl, ⟨rfl, rfl, by simp, (fun i hi => .inr ((by decide : ∀ i, i < 1 → ([0] : List Nat).getD i 0 = i) i hi)), trivial, ⟨.inr ⟨by decide, rfl⟩, trivial⟩, rfl, by decide, rfl, (by first | rfl | simp [scRow, tkC_scs])⟩, rfl, rfl⟩
  · simp only [Try.f67, tkC, byts, bool, FinR, evRes, evRVs, evRV, am, simprocAttr, tys]
    exact ⟨_, [], [0], rfl, ⟨rfl, rfl, by simp, (fun i hi => .inr ((by decide : ∀ i, i < 1 → ([0] : List Nat).getD i 0 = i) i hi)), trivial, ⟨.inr ⟨by decide, rfl⟩, trivial⟩, rfl, by decide, rfl, (by first | rfl | simp [scRow, tkC_scs])⟩, rfl, rfl⟩

theorem refNum (t : Tk) (hl : ∀ bs, t = some bs → bs.length ≤ 100000000000000) : AFun Try.prog 45 [.ptr 0 0] [.box (tkC t)] (u64 (numT t).1) [.box (tkC (numT t).2)] := by
  refine AFun.of_walk hP Try.func45 rfl rfl rfl (by simp) rfl ?_
  rcases t with _ | bs
  · simp only [Try.f45, tkC, byts, bool, u64, numT, am, simprocAttr, tys]
    refine ALoopW.intro 67 1 (ι := Unit) (fun i => [(0, .ptr 0 0), (5, .d (.lit (.int .i64 0)))]) (fun _ => [.box [.d (.lit (.slice none 0 0)), .d (.lit (.bool true))]]) (fun _ => 0) () [] [0] ?_ (fun _ => ?_)
    · exact ⟨rfl, rfl, by simp, (fun i hi => .inr ((by decide : ∀ i, i < 1 → ([0] : List Nat).getD i 0 = i) i hi)), ⟨.inr rfl, .inr rfl, trivial⟩, ⟨.inr ⟨by decide, rfl⟩, trivial⟩, rfl, by decide, rfl, (by first | rfl | simp [scRow, tkC_scs])⟩
    simp only [am, simprocAttr, tys]
    refine ACall.of (refFail none) [0] [] rfl (by simp) (by simp) (by simp) (by repeat' (first | exact trivial | exact .inl rfl | exact .inr rfl | exact .inr ⟨rfl, rfl, rfl, by simp; done⟩ | exact .inr ⟨rfl, by simp; done⟩ | exact .inr ⟨rfl, rfl, by simp; done⟩ | apply And.intro)) (by repeat' (first | exact trivial | rfl | exact (tkC_ren.1 _ _).symm | (simp; done) | apply And.intro)) (by first | exact .inl rfl | (refine .inr ⟨trivial, ?_⟩; first | (intro row h; rcases List.mem_singleton.1 h with rfl; exact nvB _) | (intro row h; cases h; done) | (simp; done)) | (refine .inr ⟨by simp [nvP, nvP.nvPs, nvD, nilS, errno], ?_⟩; first | (intro row h; rcases List.mem_singleton.1 h with rfl; exact nvB _) | (intro row h; cases h; done) | (simp [nvRow, nvD, nvP]; done))) ?_
    simp only [tkC, bool, FinR, evRes, evRVs, evRV, am, simprocAttr, tys]
    exact ⟨_, [], [0], rfl, ⟨rfl, rfl, by simp, (fun i hi => .inr ((by decide : ∀ i, i < 1 → ([0] : List Nat).getD i 0 = i) i hi)), trivial, ⟨.inr ⟨by decide, rfl⟩, trivial⟩, rfl, by decide, rfl, (by first | rfl | simp [scRow, tkC_scs])⟩, rfl, rfl⟩
  · have hbl := hl bs rfl
    simp only [Try.f45, tkC, byts, bool, u64, am, simprocAttr, tys]
    refine ALoopW.intro 67 1 (ι := { i : Nat // i ≤ 10 ∧ i ≤ bs.length ∧ (bs.take i).all isC = true }) (fun i => [(0, .ptr 0 0), (3, .d (.lit (.int .u64 ((val (bs.take i.1) % 18446744073709551616 : Nat) : Int)))), (4, .d (.lit (.int .u64 ((128 ^ i.1 % 18446744073709551616 : Nat) : Int)))), (5, .d (.lit (.int .i64 i.1)))]) (fun _ => [.box [.d (.sl 1 (bs.map encB)), .d (.lit (.bool false))]]) (fun i => bs.length - i.1) ⟨0, by omega, by omega, by simp⟩ [] [0] ?_ (fun ⟨i, hi9, hi, hall⟩ => ?_)
    · exact ⟨rfl, rfl, by simp, (fun i hi => .inr ((by decide : ∀ i, i < 1 → ([0] : List Nat).getD i 0 = i) i hi)), ⟨.inr rfl, .inr rfl, .inr rfl, .inr rfl, trivial⟩, ⟨.inr ⟨by decide, rfl⟩, trivial⟩, rfl, by decide, rfl, (by first | rfl | simp [scRow, tkC_scs])⟩
    have hil : (bs.take i).length = i := by rw [List.length_take]; omega
    rcases Nat.lt_or_ge i bs.length with hlt | hge
    · have hb : bs[i]? = some bs[i] := List.getElem?_eq_getElem hlt
      have hlt2 : ((i : Int) < bs.length) := by omega
      by_cases h10 : i < 10
      · have h10' : ((i : Int) < 10) := by omega
        have e1 : IntKind.i64.wrap ((i : Int) + 1) = ((i + 1 : Nat) : Int) := by rw [IntWalk.i64_in _ (by omega)]; simp
        have hm : bs[i].toNat % 128 < 128 := Nat.mod_lt _ (by omega)
        have t1 : ((bs[i].toNat : Nat) : Int).tmod 128 = ((bs[i].toNat % 128 : Nat) : Int) := rfl
        have t2 : IntKind.u64.wrap ((bs[i].toNat % 128 : Nat) : Int) = ((bs[i].toNat % 128 : Nat) : Int) := IntWalk.u64_in _ (by omega)
        have t3 : IntKind.u64.wrap (((val (bs.take i) % 18446744073709551616 : Nat) : Int) + IntKind.u64.wrap (((bs[i].toNat % 128 : Nat) : Int) * ((128 ^ i % 18446744073709551616 : Nat) : Int))) = ((val (bs.take (i + 1)) % 18446744073709551616 : Nat) : Int) := by
          rw [List.take_succ_eq_append_getElem hlt, val_snoc, hil, Nat.mul_comm (128 ^ i)]
          rw [IntKind.wrap_u64, IntKind.wrap_u64, ← Int.natCast_mul]
          have e5 : bs[i].toNat % 128 * 128 ^ i % 18446744073709551616 = bs[i].toNat % 128 * (128 ^ i % 18446744073709551616) % 18446744073709551616 := by rw [Nat.mul_mod, Nat.mod_eq_of_lt (show bs[i].toNat % 128 < 18446744073709551616 by omega)]
          generalize bs[i].toNat % 128 * 128 ^ i = A at *
          generalize bs[i].toNat % 128 * (128 ^ i % 18446744073709551616) = C at *
          omega
        have t4 : IntKind.u64.wrap (((128 ^ i % 18446744073709551616 : Nat) : Int) * 128) = ((128 ^ (i + 1) % 18446744073709551616 : Nat) : Int) := by
          rw [IntKind.wrap_u64, Nat.pow_succ]
          omega
        by_cases hc : bs[i].toNat < 128
        · have hcI : ((bs[i].toNat : Int) < 128) := by omega
          have hle : ((i + 1 : Nat) : Int) ≤ bs.length := by omega
          have hml : val (bs.take (i + 1)) % 18446744073709551616 < 18446744073709551616 := Nat.mod_lt _ (by omega)
          simp only [hb, hlt2, encB, h10', hcI, t1, t2, t3, t4, Int.natCast_nonneg, am, simprocAttr, tys]
          refine ACallD.of (refPut [] (val (bs.take (i + 1)) % 18446744073709551616) (by simp) hml) (by kernel_rfl) [] [] rfl (by simp) (by simp) (by simp) (by simp) (by repeat' (first | exact trivial | exact .inl rfl | exact .inr rfl | exact .inr ⟨rfl, rfl, rfl, by simp; done⟩ | exact .inr ⟨rfl, by simp; done⟩ | exact .inr ⟨rfl, rfl, by simp; done⟩ | apply And.intro)) (by repeat' (first | exact trivial | rfl | exact (tkC_ren.1 _ _).symm | (simp; done) | apply And.intro)) (by first | exact .inl rfl | (refine .inr ⟨trivial, ?_⟩; first | (intro row h; rcases List.mem_singleton.1 h with rfl; exact nvB _) | (intro row h; cases h; done) | (simp; done)) | (refine .inr ⟨by simp [nvP, nvP.nvPs, nvD, nilS, errno], ?_⟩; first | (intro row h; rcases List.mem_singleton.1 h with rfl; exact nvB _) | (intro row h; cases h; done) | (simp [nvRow, nvD, nvP]; done))) rfl rfl rfl rfl ?_
          simp only [e1, hle, ← List.map_take, bl_toList, strOf_encB, Int.natCast_nonneg, Int.toNat_natCast, List.drop_zero, am, simprocAttr, tys]
          refine ⟨by kernel_rfl, ?_⟩
          rcases heq : (leb (val (bs.take (i + 1)) % 18446744073709551616) == bs.take (i + 1)) with _ | _
          · have ht := takeNum_ne bs i hlt hall hc (by rw [beq_eq_false_iff_ne] at heq; exact heq)
            simp only [am, simprocAttr, tys]
            refine ACall.of (refFail (some bs)) [0] [] rfl (by simp) (by simp) (by simp) (by repeat' (first | exact trivial | exact .inl rfl | exact .inr rfl | exact .inr ⟨rfl, rfl, rfl, by simp; done⟩ | exact .inr ⟨rfl, by simp; done⟩ | exact .inr ⟨rfl, rfl, by simp; done⟩ | apply And.intro)) (by repeat' (first | exact trivial | rfl | exact (tkC_ren.1 _ _).symm | (simp; done) | apply And.intro)) (by first | exact .inl rfl | (refine .inr ⟨trivial, ?_⟩; first | (intro row h; rcases List.mem_singleton.1 h with rfl; exact nvB _) | (intro row h; cases h; done) | (simp; done)) | (refine .inr ⟨by simp [nvP, nvP.nvPs, nvD, nilS, errno], ?_⟩; first | (intro row h; rcases List.mem_singleton.1 h with rfl; exact nvB _) | (intro row h; cases h; done) | (simp [nvRow, nvD, nvP]; done))) ?_
            simp only [ht, numT, tkC, bool, FinR, evRes, evRVs, evRV, am, simprocAttr, tys]
            exact ⟨_, [], [0], rfl, ⟨rfl, rfl, by simp, (fun i hi => .inr ((by decide : ∀ i, i < 1 → ([0] : List Nat).getD i 0 = i) i hi)), trivial, ⟨.inr ⟨by decide, rfl⟩, trivial⟩, rfl, by decide, rfl, (by first | rfl | simp [scRow, tkC_scs])⟩, rfl, rfl⟩
          · have ht := takeNum_eq bs (i + 1) _ hml (eq_of_beq heq)
            simp only [e1, ht, numT, tkC, byts, bool, ← List.map_take, ← List.map_drop, List.take_length, FinR, evRes, evRVs, evRV, am, simprocAttr, tys]
            exact ⟨by omega, ⟨_, [], [0], rfl, ⟨rfl, rfl, by simp, (fun i hi => .inr ((by decide : ∀ i, i < 1 → ([0] : List Nat).getD i 0 = i) i hi)), trivial, ⟨.inr ⟨by decide, rfl⟩, trivial⟩, rfl, by decide, rfl, (by first | rfl | simp [scRow, tkC_scs])⟩, rfl, rfl⟩⟩
        · have hcI : ¬ ((bs[i].toNat : Int) < 128) := by omega
          simp only [hb, hlt2, encB, h10', hcI, t1, t2, t3, t4, e1, Int.natCast_nonneg, am, simprocAttr, tys]
          refine ⟨⟨i + 1, by omega, by omega, ?_⟩, [], [0], ⟨rfl, rfl, by simp, (fun i hi => .inr ((by decide : ∀ i, i < 1 → ([0] : List Nat).getD i 0 = i) i hi)), ⟨.inr rfl, .inr rfl, .inr rfl, .inr rfl, trivial⟩, ⟨.inr ⟨by decide, rfl⟩, trivial⟩, rfl, by decide, rfl, (by first | rfl | simp [scRow, tkC_scs])⟩, by show bs.length - (i + 1) < bs.length - i; omega⟩
          rw [List.take_succ_eq_append_getElem hlt]
          simp only [List.all_append, hall, List.all_cons, List.all_nil, isC, Bool.and_true, Bool.true_and, decide_eq_true_eq]; omega
      · have h10' : ¬ ((i : Int) < 10) := by omega
        have ht : takeNum bs = none := by
          have := takeNum_long (bs.take i) (bs.drop i) hall (by omega)
          rwa [List.take_append_drop] at this
        simp only [hlt2, h10', am, simprocAttr, tys]
        refine ACall.of (refFail (some bs)) [0] [] rfl (by simp) (by simp) (by simp) (by repeat' (first | exact trivial | exact .inl rfl | exact .inr rfl | exact .inr ⟨rfl, rfl, rfl, by simp; done⟩ | exact .inr ⟨rfl, by simp; done⟩ | exact .inr ⟨rfl, rfl, by simp; done⟩ | apply And.intro)) (by repeat' (first | exact trivial | rfl | exact (tkC_ren.1 _ _).symm | (simp; done) | apply And.intro)) (by first | exact .inl rfl | (refine .inr ⟨trivial, ?_⟩; first | (intro row h; rcases List.mem_singleton.1 h with rfl; exact nvB _) | (intro row h; cases h; done) | (simp; done)) | (refine .inr ⟨by simp [nvP, nvP.nvPs, nvD, nilS, errno], ?_⟩; first | (intro row h; rcases List.mem_singleton.1 h with rfl; exact nvB _) | (intro row h; cases h; done) | (simp [nvRow, nvD, nvP]; done))) ?_
        simp only [ht, numT, tkC, bool, FinR, evRes, evRVs, evRV, am, simprocAttr, tys]
        exact ⟨_, [], [0], rfl, ⟨rfl, rfl, by simp, (fun i hi => .inr ((by decide : ∀ i, i < 1 → ([0] : List Nat).getD i 0 = i) i hi)), trivial, ⟨.inr ⟨by decide, rfl⟩, trivial⟩, rfl, by decide, rfl, (by first | rfl | simp [scRow, tkC_scs])⟩, rfl, rfl⟩
    · have hlt2 : ¬ ((i : Int) < bs.length) := by omega
      have hi' : i = bs.length := by omega
      have ht : takeNum bs = none := takeNum_all bs (by rw [hi', List.take_length] at hall; exact hall)
      simp only [hlt2, am, simprocAttr, tys]
      refine ACall.of (refFail (some bs)) [0] [] rfl (by simp) (by simp) (by simp) (by repeat' (first | exact trivial | exact .inl rfl | exact .inr rfl | exact .inr ⟨rfl, rfl, rfl, by simp; done⟩ | exact .inr ⟨rfl, by simp; done⟩ | exact .inr ⟨rfl, rfl, by simp; done⟩ | apply And.intro)) (by repeat' (first | exact trivial | rfl | exact (tkC_ren.1 _ _).symm | (simp; done) | apply And.intro)) (by first | exact .inl rfl | (refine .inr ⟨trivial, ?_⟩; first | (intro row h; rcases List.mem_singleton.1 h with rfl; exact nvB _) | (intro row h; cases h; done) | (simp; done)) | (refine .inr ⟨by simp [nvP, nvP.nvPs, nvD, nilS, errno], ?_⟩; first | (intro row h; rcases List.mem_singleton.1 h with rfl; exact nvB _) | (intro row h; cases h; done) | (simp [nvRow, nvD, nvP]; done))) ?_
      simp only [ht, numT, tkC, bool, FinR, evRes, evRVs, evRV, am, simprocAttr, tys]
      exact ⟨_, [], [0], rfl, ⟨rfl, rfl, by simp, (fun i hi => .inr ((by decide : ∀ i, i < 1 → ([0] : List Nat).getD i 0 = i) i hi)), trivial, ⟨.inr ⟨by decide, rfl⟩, trivial⟩, rfl, by decide, rfl, (by first | rfl | simp [scRow, tkC_scs])⟩, rfl, rfl⟩
end Go.Proofs.Ytflpphgccjlkjaa

set_option linter.unusedSimpArgs false
set_option linter.unusedVariables false
namespace Go.Proofs.Ytflpphgccjlkjaa
open Go Go.AM

theorem tkText (t : Tk) (hl : ∀ bs, t = some bs → bs.length ≤ 100000000000000) : AFun Try.prog 98 [.ptr 0 0] [.box (tkC t)] (str (textT t).1) [.box (tkC (textT t).2)] := by
  refine AFun.of_walk hP Try.func98 rfl rfl rfl (by simp) rfl ?_
  obtain ⟨hn, hr⟩ := numT_lt t hl
  have h0 := numT_none t
  simp only [Try.f98, am, simprocAttr, tys]
  refine ACall.of (tkNum t hl) [0] [] rfl (by simp) (by simp) (by simp) (by repeat' (first | exact trivial | exact .inl rfl | exact .inr rfl | exact .inr ⟨rfl, rfl, rfl, by simp; done⟩ | exact .inr ⟨rfl, by simp; done⟩ | exact .inr ⟨rfl, rfl, by simp; done⟩ | apply And.intro)) (by repeat' (first | exact trivial | rfl | exact (tkC_ren.1 _ _).symm | (simp; done) | apply And.intro)) (by first | exact .inl rfl | (refine .inr ⟨trivial, ?_⟩; first | (intro row h; rcases List.mem_singleton.1 h with rfl; exact nvB _) | (intro row h; cases h; done) | (simp; done)) | (refine .inr ⟨by simp [nvP, nvP.nvPs, nvD, nilS, errno], ?_⟩; first | (intro row h; rcases List.mem_singleton.1 h with rfl; exact nvB _) | (intro row h; cases h; done) | (simp [nvRow, nvD, nvP]; done))) ?_
  unfold textT
  generalize (numT t).1 = n at *
  rcases hq : (numT t).2 with _ | r
  · have hn0 := h0 hq
    subst hn0
    have hw0 : IntKind.u64.wrap 0 = 0 := by decide
    simp only [tkC, byts, bool, u64, str, hw0, FinR, evRes, evRVs, evRV, am, simprocAttr, tys]
    exact ⟨_, [], [0], rfl, ⟨rfl, rfl, by simp, (fun i hi => .inr ((by decide : ∀ i, i < 1 → ([0] : List Nat).getD i 0 = i) i hi)), trivial, ⟨.inr ⟨by decide, rfl⟩, trivial⟩, rfl, by decide, rfl, (by first | rfl | simp [scRow, tkC_scs])⟩, rfl, rfl⟩
  · have hrl := hr r hq
    have e1 : IntKind.u64.wrap (r.length : Int) = r.length := IntWalk.u64_in _ (by omega)
    rcases Nat.lt_or_ge r.length n with hlt | hge
    · have hI : ((r.length : Int) < n) := by omega
      simp only [tkC, byts, bool, u64, str, hlt, hI, e1, am, simprocAttr, tys]
      refine ACall.of (tkFail (some r)) [0] [] rfl (by simp) (by simp) (by simp) (by repeat' (first | exact trivial | exact .inl rfl | exact .inr rfl | exact .inr ⟨rfl, rfl, rfl, by simp; done⟩ | exact .inr ⟨rfl, by simp; done⟩ | exact .inr ⟨rfl, rfl, by simp; done⟩ | apply And.intro)) (by repeat' (first | exact trivial | rfl | exact (tkC_ren.1 _ _).symm | (simp; done) | apply And.intro)) (by first | exact .inl rfl | (refine .inr ⟨trivial, ?_⟩; first | (intro row h; rcases List.mem_singleton.1 h with rfl; exact nvB _) | (intro row h; cases h; done) | (simp; done)) | (refine .inr ⟨by simp [nvP, nvP.nvPs, nvD, nilS, errno], ?_⟩; first | (intro row h; rcases List.mem_singleton.1 h with rfl; exact nvB _) | (intro row h; cases h; done) | (simp [nvRow, nvD, nvP]; done))) ?_
      simp only [tkC, bool, FinR, evRes, evRVs, evRV, am, simprocAttr, tys]
      exact ⟨_, [], [0], rfl, ⟨rfl, rfl, by simp, (fun i hi => .inr ((by decide : ∀ i, i < 1 → ([0] : List Nat).getD i 0 = i) i hi)), trivial, ⟨.inr ⟨by decide, rfl⟩, trivial⟩, rfl, by decide, rfl, (by first | rfl | simp [scRow, tkC_scs])⟩, rfl, rfl⟩
    · have hI : ¬ ((r.length : Int) < n) := by omega
      have hI2 : ((n : Int) ≤ r.length) := by omega
      have hN : ¬ (r.length < n) := by omega
      simp only [tkC, byts, bool, u64, str, hN, hI, hI2, e1, Int.natCast_nonneg, ← List.map_take, ← List.map_drop, List.take_length, strOf_encB, FinR, evRes, evRVs, evRV, am, simprocAttr, tys]
      exact ⟨by omega, ⟨_, [], [0], rfl, ⟨rfl, rfl, by simp, (fun i hi => .inr ((by decide : ∀ i, i < 1 → ([0] : List Nat).getD i 0 = i) i hi)), trivial, ⟨.inr ⟨by decide, rfl⟩, trivial⟩, rfl, by decide, rfl, (by first | rfl | simp [scRow, tkC_scs])⟩, rfl, rfl⟩⟩

theorem refText (t : Tk) (hl : ∀ bs, t = some bs → bs.length ≤ 100000000000000) : AFun Try.prog 89 [.ptr 0 0] [.box (tkC t)] (str (textT t).1) [.box (tkC (textT t).2)] := by
  refine AFun.of_walk hP Try.func89 rfl rfl rfl (by simp) rfl ?_
  obtain ⟨hn, hr⟩ := numT_lt t hl
  have h0 := numT_none t
  simp only [Try.f89, am, simprocAttr, tys]
  refine ACall.of (refNum t hl) [0] [] rfl (by simp) (by simp) (by simp) (by repeat' (first | exact trivial | exact .inl rfl | exact .inr rfl | exact .inr ⟨rfl, rfl, rfl, by simp; done⟩ | exact .inr ⟨rfl, by simp; done⟩ | exact .inr ⟨rfl, rfl, by simp; done⟩ | apply And.intro)) (by repeat' (first | exact trivial | rfl | exact (tkC_ren.1 _ _).symm | (simp; done) | apply And.intro)) (by first | exact .inl rfl | (refine .inr ⟨trivial, ?_⟩; first | (intro row h; rcases List.mem_singleton.1 h with rfl; exact nvB _) | (intro row h; cases h; done) | (simp; done)) | (refine .inr ⟨by simp [nvP, nvP.nvPs, nvD, nilS, errno], ?_⟩; first | (intro row h; rcases List.mem_singleton.1 h with rfl; exact nvB _) | (intro row h; cases h; done) | (simp [nvRow, nvD, nvP]; done))) ?_
  unfold textT
  generalize (numT t).1 = n at *
  rcases hq : (numT t).2 with _ | r
  · have hn0 := h0 hq
    subst hn0
    have hw0 : IntKind.u64.wrap 0 = 0 := by decide
    simp only [tkC, byts, bool, u64, str, hw0, FinR, evRes, evRVs, evRV, am, simprocAttr, tys]
    exact ⟨_, [], [0], rfl, ⟨rfl, rfl, by simp, (fun i hi => .inr ((by decide : ∀ i, i < 1 → ([0] : List Nat).getD i 0 = i) i hi)), trivial, ⟨.inr ⟨by decide, rfl⟩, trivial⟩, rfl, by decide, rfl, (by first | rfl | simp [scRow, tkC_scs])⟩, rfl, rfl⟩
  · have hrl := hr r hq
    have e1 : IntKind.u64.wrap (r.length : Int) = r.length := IntWalk.u64_in _ (by omega)
    rcases Nat.lt_or_ge r.length n with hlt | hge
    · have hI : ((r.length : Int) < n) := by omega
      simp only [tkC, byts, bool, u64, str, hlt, hI, e1, am, simprocAttr, tys]
      refine ACall.of (refFail (some r)) [0] [] rfl (by simp) (by simp) (by simp) (by repeat' (first | exact trivial | exact .inl rfl | exact .inr rfl | exact .inr ⟨rfl, rfl, rfl, by simp; done⟩ | exact .inr ⟨rfl, by simp; done⟩ | exact .inr ⟨rfl, rfl, by simp; done⟩ | apply And.intro)) (by repeat' (first | exact trivial | rfl | exact (tkC_ren.1 _ _).symm | (simp; done) | apply And.intro)) (by first | exact .inl rfl | (refine .inr ⟨trivial, ?_⟩; first | (intro row h; rcases List.mem_singleton.1 h with rfl; exact nvB _) | (intro row h; cases h; done) | (simp; done)) | (refine .inr ⟨by simp [nvP, nvP.nvPs, nvD, nilS, errno], ?_⟩; first | (intro row h; rcases List.mem_singleton.1 h with rfl; exact nvB _) | (intro row h; cases h; done) | (simp [nvRow, nvD, nvP]; done))) ?_
      simp only [tkC, bool, FinR, evRes, evRVs, evRV, am, simprocAttr, tys]
      exact ⟨_, [], [0], rfl, ⟨rfl, rfl, by simp, (fun i hi => .inr ((by decide : ∀ i, i < 1 → ([0] : List Nat).getD i 0 = i) i hi)), trivial, ⟨.inr ⟨by decide, rfl⟩, trivial⟩, rfl, by decide, rfl, (by first | rfl | simp [scRow, tkC_scs])⟩, rfl, rfl⟩
    · have hI : ¬ ((r.length : Int) < n) := by omega
      have hI2 : ((n : Int) ≤ r.length) := by omega
      have hN : ¬ (r.length < n) := by omega
      simp only [tkC, byts, bool, u64, str, hN, hI, hI2, e1, Int.natCast_nonneg, ← List.map_take, ← List.map_drop, List.take_length, strOf_encB, FinR, evRes, evRVs, evRV, am, simprocAttr, tys]
      exact ⟨by omega, ⟨_, [], [0], rfl, ⟨rfl, rfl, by simp, (fun i hi => .inr ((by decide : ∀ i, i < 1 → ([0] : List Nat).getD i 0 = i) i hi)), trivial, ⟨.inr ⟨by decide, rfl⟩, trivial⟩, rfl, by decide, rfl, (by first | rfl | simp [scRow, tkC_scs])⟩, rfl, rfl⟩⟩

end Go.Proofs.Ytflpphgccjlkjaa

set_option linter.unusedSimpArgs false
set_option linter.unusedVariables false
namespace Go.Proofs.Ytflpphgccjlkjaa
open Go Go.AM

theorem tkEnd (t : Tk) : AFun Try.prog 42 [.ptr 0 0] [.box (tkC t)] (errno (endT t)) [.box (tkC t)] := by
  refine AFun.of_walk hP Try.func42 rfl rfl rfl (by simp) rfl ?_
  rcases t with _ | bs
  · simp only [Try.f42, tkC, byts, bool, FinR, evRes, evRVs, evRV, am, simprocAttr, tys]
    exact ⟨_, [], [0], rfl, ⟨rfl, rfl, by simp, (fun i hi => .inr ((by decide : ∀ i, i < 1 → ([0] : List Nat).getD i 0 = i) i hi)), trivial, ⟨.inr ⟨by decide, rfl⟩, trivial⟩, rfl, by decide, rfl, (by first | rfl | simp [scRow, tkC_scs])⟩, rfl, rfl⟩
  · rcases bs with _ | ⟨b, bs⟩
    · simp only [Try.f42, tkC, byts, bool, FinR, evRes, evRVs, evRV, am, simprocAttr, tys]
      exact ⟨_, [], [0], rfl, ⟨rfl, rfl, by simp, (fun i hi => .inr ((by decide : ∀ i, i < 1 → ([0] : List Nat).getD i 0 = i) i hi)), trivial, ⟨.inr ⟨by decide, rfl⟩, trivial⟩, rfl, by decide, rfl, (by first | rfl | simp [scRow, tkC_scs])⟩, rfl, rfl⟩
    · have h : ((0 : Int) < ((bs.length + 1 : Nat) : Int)) := by omega
      simp only [Try.f42, tkC, byts, bool, h, FinR, evRes, evRVs, evRV, am, simprocAttr, tys]
      exact ⟨_, [], [0], rfl, ⟨rfl, rfl, by simp, (fun i hi => .inr ((by decide : ∀ i, i < 1 → ([0] : List Nat).getD i 0 = i) i hi)), trivial, ⟨.inr ⟨by decide, rfl⟩, trivial⟩, rfl, by decide, rfl, (by first | rfl | simp [scRow, tkC_scs])⟩, rfl, rfl⟩

end Go.Proofs.Ytflpphgccjlkjaa

set_option linter.unusedSimpArgs false
set_option linter.unusedVariables false
namespace Go.Proofs.Ytflpphgccjlkjaa
open Go Go.AM

def TkB (n : Nat) (t : Tk) : Prop := ∀ bs, t = some bs → bs.length ≤ n
theorem TkB.le {n m : Nat} {t : Tk} (h : TkB n t) (hnm : n ≤ m) : TkB m t := fun bs e => Nat.le_trans (h bs e) hnm
theorem numT_some {t : Tk} {r : List UInt8} (h : (numT t).2 = some r) : (numT t).1 < 18446744073709551616 ∧ t = some (leb (numT t).1 ++ r) := by
  rcases t with _ | bs
  · simp [numT] at h
  · rcases hk : takeNum bs with _ | ⟨m, s⟩
    · simp only [numT, hk] at h; cases h
    · simp only [numT, hk, Option.some.injEq] at h ⊢
      subst h
      exact takeNum_some hk
theorem numT_leb (n : Nat) (r : List UInt8) (h : n < 18446744073709551616) : numT (some (leb n ++ r)) = (n, some r) := by
  simp only [numT, takeNum_leb n r h]
theorem textT_some {t : Tk} {r : List UInt8} (h : (textT t).2 = some r) : t = some (lebT (textT t).1 ++ r) := by
  unfold textT at h ⊢
  rcases hk : (numT t).2 with _ | s
  · rw [hk] at h; cases h
  · rw [hk] at h
    simp only at h ⊢
    obtain ⟨h1, h2⟩ := numT_some hk
    split at h
    · cases h
    · rename_i hlt
      simp only [Option.some.injEq] at h
      subst h
      have hl : (s.take (numT t).1).length = (numT t).1 := by rw [List.length_take]; omega
      rw [if_neg hlt]
      simp only
      unfold lebT
      rw [hl, List.append_assoc, List.take_append_drop]
      exact h2
theorem textT_lebT (s r : List UInt8) (h : s.length < 18446744073709551616) : textT (some (lebT s ++ r)) = (s, some r) := by
  have e : numT (some (lebT s ++ r)) = (s.length, some (s ++ r)) := by
    simp only [numT, lebT, List.append_assoc, takeNum_leb s.length (s ++ r) h]
  unfold textT
  rw [e]
  simp
theorem numT_B {n : Nat} (t : Tk) (h : TkB n t) : TkB n (numT t).2 := by
  intro r hr
  obtain ⟨_, h2⟩ := numT_some hr
  have := h _ h2
  rw [List.length_append] at this; omega
theorem textT_B {n : Nat} (t : Tk) (h : TkB n t) : TkB n (textT t).2 ∧ (textT t).1.length ≤ n := by
  constructor
  · intro r hr
    have h2 := textT_some hr
    have := h _ h2
    rw [List.length_append] at this; omega
  · rcases hk : (textT t).2 with _ | r
    · have : (textT t).1 = [] := by
        unfold textT at hk ⊢
        rcases hk2 : (numT t).2 with _ | s
        · rfl
        · rw [hk2] at hk
          simp only at hk ⊢
          split at hk
          · rename_i h'; rw [if_pos h']
          · cases hk
      rw [this]; simp
    · have h2 := textT_some hk
      have := h _ h2
      unfold lebT at this
      simp only [List.length_append] at this; omega

theorem drop_tail (a r : List UInt8) : (a ++ r).drop ((a ++ r).length - r.length) = r := by
  have : (a ++ r).length - r.length = a.length := by simp
  rw [this]; simp
end Go.Proofs.Ytflpphgccjlkjaa
