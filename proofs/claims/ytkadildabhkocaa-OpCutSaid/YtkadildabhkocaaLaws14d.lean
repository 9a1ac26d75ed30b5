/- Proved here: what functions of the program compute, and plain laws. No condition. -/
import Derived.Test.YtkadildabhkocaaLaws14c
set_option linter.unusedSimpArgs false
set_option linter.unusedVariables false
namespace Go.Proofs.Ytkadildabhkocaa
open Go Go.AM

theorem AFun.arg2 {f : Nat} {p q q' : PV} {r : PV} {out : List Row} (h : AFun Try.prog f [p, q] [] r out) (hq : ∀ rows β w X v, repP rows β w X q' v → repP rows β w X q v) : AFun Try.prog f [p, q'] [] r out := by
  intro B β X w vs hk h0 hm ha
  refine h B β X w vs hk h0 hm ?_
  unfold repPs at *
  obtain ⟨u, us, e, h1, h2⟩ := ha
  refine ⟨u, us, e, h1, ?_⟩
  unfold repPs at *
  obtain ⟨u', us', e', h3, h4⟩ := h2
  exact ⟨u', us', e', hq _ _ _ _ _ h3, h4⟩
theorem wfU16 {n : Int} (h : (Lit.int .u16 n).wf = true) : 0 ≤ n ∧ n ≤ 65535 := by
  simp only [Lit.wf, Bool.and_eq_true, decide_eq_true_eq] at h
  exact h
theorem takeO_cut {o : OpT} (ho : FitI o) (h : rightO o = true) (k : Nat) (hk : k < (putO o).length) : takeO ((putO o).take k) = none := by
  rcases ht : takeO ((putO o).take k) with _ | ⟨p, r⟩
  · rfl
  · obtain ⟨h1, h2, h3⟩ := takeO_some ht
    have e1 := takeO_put o ho h []
    have e2 := takeO_put p h3 h1 (r ++ (putO o).drop k)
    rw [← List.append_assoc, ← h2, List.take_append_drop] at e2
    rw [List.append_nil, e2] at e1
    simp only [Option.some.injEq, Prod.mk.injEq, List.append_eq_nil_iff] at e1
    have := congrArg List.length e1.2.2
    simp at this; omega

set_option maxRecDepth 8000 in
set_option maxHeartbeats 2000000 in
theorem lawOpCut (a : OpT) (n : Int) (ha1 : a.2.1.length ≤ 9223372036854775807) (ha2 : a.2.2.2.1.length ≤ 9223372036854775807) (pa1 : I64 a.2.2.1.1) (pa2 : I64 a.2.2.1.2.1) (hn : 0 ≤ n ∧ n ≤ 65535) :
    AFun Try.prog 8 [.d (.agg (encO a)), .d (.lit (.int .u16 n))] [] (bool true) [] := by
  refine AFun.of_walk hP Try.func8 rfl rfl rfl (by simp) rfl ?_
  have fa := few14 a ha1 ha2
  have fitA := fewO_fit pa1 pa2
  generalize fewO a = A at *
  have cPN := opPutN A fitA
  have cP := opPut A fitA
  simp only [encO] at fa cPN cP
  simp only [Try.f8, encO, am, simprocAttr, tys]
  refine ACall.of (shown14) [] [] rfl (by simp) (by simp) (by simp) (by repeat' (first | exact trivial | exact .inl rfl | exact .inr rfl | exact .inr ⟨rfl, by simp⟩ | exact .inr ⟨rfl, rfl, by simp⟩ | apply And.intro)) (by repeat' (first | exact trivial | rfl | exact (tkC_ren.1 _ _).symm | (simp; done) | apply And.intro)) (by first | exact .inl rfl | (refine .inr ⟨trivial, ?_⟩; first | (intro row h; rcases List.mem_singleton.1 h with rfl; exact nvB _) | (intro row h; cases h; done) | (simp; done)) | (refine .inr ⟨by simp [nvP, nvP.nvPs, nvD, nilS, errno], ?_⟩; first | (intro row h; rcases List.mem_singleton.1 h with rfl; exact nvB _) | (intro row h; cases h; done) | (simp [nvRow, nvD, nvP]; done))) ?_
  simp only [bool, am, simprocAttr, tys]
  refine ACall.of (fa) [] [] rfl (by simp) (by simp) (by simp) (by repeat' (first | exact trivial | exact .inl rfl | exact .inr rfl | exact .inr ⟨rfl, by simp⟩ | exact .inr ⟨rfl, rfl, by simp⟩ | apply And.intro)) (by repeat' (first | exact trivial | rfl | exact (tkC_ren.1 _ _).symm | (simp; done) | apply And.intro)) (by first | exact .inl rfl | (refine .inr ⟨trivial, ?_⟩; first | (intro row h; rcases List.mem_singleton.1 h with rfl; exact nvB _) | (intro row h; cases h; done) | (simp; done)) | (refine .inr ⟨by simp [nvP, nvP.nvPs, nvD, nilS, errno], ?_⟩; first | (intro row h; rcases List.mem_singleton.1 h with rfl; exact nvB _) | (intro row h; cases h; done) | (simp [nvRow, nvD, nvP]; done))) ?_
  simp only [am, simprocAttr, tys]
  rcases hr : rightO A with _ | _
  · refine ACall.of (cPN hr) [] [] rfl (by simp) (by simp) (by simp) (by repeat' (first | exact trivial | exact .inl rfl | exact .inr rfl | exact .inr ⟨rfl, by simp⟩ | exact .inr ⟨rfl, rfl, by simp⟩ | apply And.intro)) (by repeat' (first | exact trivial | rfl | exact (tkC_ren.1 _ _).symm | (simp; done) | apply And.intro)) (by first | exact .inl rfl | (refine .inr ⟨trivial, ?_⟩; first | (intro row h; rcases List.mem_singleton.1 h with rfl; exact nvB _) | (intro row h; cases h; done) | (simp; done)) | (refine .inr ⟨by simp [nvP, nvP.nvPs, nvD, nilS, errno], ?_⟩; first | (intro row h; rcases List.mem_singleton.1 h with rfl; exact nvB _) | (intro row h; cases h; done) | (simp [nvRow, nvD, nvP]; done))) ?_
    simp only [nilS, errno, bool, FinR, evRes, evRVs, evRV, am, simprocAttr, tys]
    exact ⟨_, [], [], rfl, Ent.plain rfl rfl rfl trivial rfl, rfl, rfl⟩
  · have hpl := putO_len fitA hr
    have hcut := takeO_cut fitA hr
    have hp0 : 0 < (putO A).length := by unfold putO; simp
    have c1 := cP hr
    generalize putO A = x at *
    have hEA : (((x.length : Nat) : Int) == 0) = false := by rw [beq_eq_false_iff_ne]; omega
    have hn0 : ¬ ((x.length : Int) = 0) := by omega
    have w2 : IntKind.i64.wrap n = n := IntWalk.i64_in _ (by omega)
    obtain ⟨k, hk, w3⟩ : ∃ k : Nat, k < x.length ∧ n.tmod (x.length : Int) = (k : Int) := by
      refine ⟨n.toNat % x.length, Nat.mod_lt _ hp0, ?_⟩
      have e : n = (n.toNat : Int) := by omega
      rw [e, ← Int.ofNat_tmod]; rfl
    have hk0 : (0 : Int) ≤ k := by omega
    have hk1 : (k : Int) ≤ x.length := by omega
    have c2 := opTake (x.take k) (by simp; omega)
    rw [hcut k hk] at c2
    have cS := AFun.arg2 (opSame zeroO zeroO (by decide) (by decide) (by decide) (by decide)) (q' := .d (.agg [.lit (.int .u8 0), .lit (.slice none 0 0), .lit (.int .i64 0), .lit (.int .i64 0), .lit (.slice none 0 0)])) (fun rows β w X v h => nilO rows β w X v h)
    rw [same_self] at cS
    simp only [takeOR, byts] at c2
    refine ACall.of (c1) [] [] rfl (by simp) (by simp) (by simp) (by repeat' (first | exact trivial | exact .inl rfl | exact .inr rfl | exact .inr ⟨rfl, by simp⟩ | exact .inr ⟨rfl, rfl, by simp⟩ | apply And.intro)) (by repeat' (first | exact trivial | rfl | exact (tkC_ren.1 _ _).symm | (simp; done) | apply And.intro)) (by first | exact .inl rfl | (refine .inr ⟨trivial, ?_⟩; first | (intro row h; rcases List.mem_singleton.1 h with rfl; exact nvB _) | (intro row h; cases h; done) | (simp; done)) | (refine .inr ⟨by simp [nvP, nvP.nvPs, nvD, nilS, errno], ?_⟩; first | (intro row h; rcases List.mem_singleton.1 h with rfl; exact nvB _) | (intro row h; cases h; done) | (simp [nvRow, nvD, nvP]; done))) ?_
    simp only [errno, hEA, w2, w3, hn0, hk0, hk1, Int.toNat_natCast, am, simprocAttr, tys]
    refine ACall.frz [1] ?_
    simp only [List.drop_zero, Nat.sub_zero, ← List.map_take, am, simprocAttr, tys]
    refine ACall.of (c2) [] [] rfl (by simp) (by simp) (by simp) (by repeat' (first | exact trivial | exact .inl rfl | exact .inr rfl | exact .inr ⟨rfl, by simp⟩ | exact .inr ⟨rfl, rfl, by simp⟩ | apply And.intro)) (by repeat' (first | exact trivial | rfl | exact (tkC_ren.1 _ _).symm | (simp; done) | apply And.intro)) (by first | exact .inl rfl | (refine .inr ⟨trivial, ?_⟩; first | (intro row h; rcases List.mem_singleton.1 h with rfl; exact nvB _) | (intro row h; cases h; done) | (simp; done)) | (refine .inr ⟨by simp [nvP, nvP.nvPs, nvD, nilS, errno], ?_⟩; first | (intro row h; rcases List.mem_singleton.1 h with rfl; exact nvB _) | (intro row h; cases h; done) | (simp [nvRow, nvD, nvP]; done))) ?_
    have cS' : AFun Try.prog 15 [.d (.agg [.lit (.int .u8 0), .sl 2 [], .lit (.int .i64 0), .lit (.int .i64 0), .sl 3 []]), .d (.agg [.lit (.int .u8 0), .lit (.slice none 0 0), .lit (.int .i64 0), .lit (.int .i64 0), .lit (.slice none 0 0)])] [] (bool true) [] := cS
    simp only [nilS, errno, encO, zeroO, am, simprocAttr, tys]
    refine ACall.of (cS') [] [] rfl (by simp) (by simp) (by simp) (by repeat' (first | exact trivial | exact .inl rfl | exact .inr rfl | exact .inr ⟨rfl, by simp⟩ | exact .inr ⟨rfl, rfl, by simp⟩ | apply And.intro)) (by repeat' (first | exact trivial | rfl | exact (tkC_ren.1 _ _).symm | (simp; done) | apply And.intro)) (by first | exact .inl rfl | (refine .inr ⟨trivial, ?_⟩; first | (intro row h; rcases List.mem_singleton.1 h with rfl; exact nvB _) | (intro row h; cases h; done) | (simp; done)) | (refine .inr ⟨by simp [nvP, nvP.nvPs, nvD, nilS, errno], ?_⟩; first | (intro row h; rcases List.mem_singleton.1 h with rfl; exact nvB _) | (intro row h; cases h; done) | (simp [nvRow, nvD, nvP]; done))) ?_
    simp only [bool, FinR, evRes, evRVs, evRV, am, simprocAttr, tys]
    exact ⟨_, [], [], rfl, Ent.plain rfl rfl rfl trivial rfl, rfl, rfl⟩
end Go.Proofs.Ytkadildabhkocaa
