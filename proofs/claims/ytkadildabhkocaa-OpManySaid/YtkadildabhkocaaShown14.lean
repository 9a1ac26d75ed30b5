/- Proved here: what functions of the program compute, and plain laws. No condition. -/
import Derived.Test.YtkadildabhkocaaOpPut
set_option linter.unusedSimpArgs false
set_option linter.unusedVariables false
namespace Go.Proofs.Ytkadildabhkocaa
open Go Go.AM

theorem AFun.arg1 {f : Nat} {p p' : PV} {r : PV} {out : List Row} (h : AFun Try.prog f [p] [] r out) (hp : ∀ rows β w X v, repP rows β w X p' v → repP rows β w X p v) : AFun Try.prog f [p'] [] r out := by
  intro B β X w vs hk h0 hm hq
  refine h B β X w vs hk h0 hm ?_
  unfold repPs at *
  obtain ⟨u, us, e, h1, h2⟩ := hq
  exact ⟨u, us, e, hp _ _ _ _ _ h1, h2⟩
theorem nil_rep (sz : Nat) (w : World) (X : Nat → Prop) (v : Value) (h : rep w X (.lit (.slice none 0 0)) v) : rep w X (.sl sz []) v := by
  have := nil_sl sz (lrows []) (fun _ => ⟨none, 0⟩) w X v (by unfold repP; exact h)
  unfold repP at this; exact this
theorem nilO {a b c : DV} (rows : AM.Rows) (β : Nat → AM.Loc) (w : World) (X : Nat → Prop) (v : Value) (h : repP rows β w X (.d (.agg [a, .lit (.slice none 0 0), b, c, .lit (.slice none 0 0)])) v) : repP rows β w X (.d (.agg [a, .sl 2 [], b, c, .sl 3 []])) v := by
  unfold repP rep at *
  obtain ⟨vs, e, h⟩ := h
  refine ⟨vs, e, ?_⟩
  simp only [reps] at *
  obtain ⟨u1, s1, e1, o1, r1, u2, s2, e2, o2, r2, u3, s3, e3, o3, r3, u4, s4, e4, o4, r4, u5, s5, e5, o5, r5, e6⟩ := h
  exact ⟨u1, s1, e1, o1, r1, u2, s2, e2, o2, nil_rep 2 w X u2 r2, u3, s3, e3, o3, r3, u4, s4, e4, o4, r4, u5, s5, e5, o5, nil_rep 3 w X u5 r5, e6⟩

def exO2 : OpT := (2, [], (0, 0, ()), [], ())
def exO3 : OpT := (3, [], (-1, 0, ()), [], ())
theorem fitI2 : FitI exO2 := ⟨⟨by decide, by decide, by simp [exO2], by simp [exO2]⟩, ⟨by decide, by decide⟩, ⟨by decide, by decide⟩⟩
theorem fitI3 : FitI exO3 := ⟨⟨by decide, by decide, by simp [exO3], by simp [exO3]⟩, ⟨by decide, by decide⟩, ⟨by decide, by decide⟩⟩
theorem lebm1 : lebI (-1) = [1] := by
  unfold lebI
  rw [show fold (-1) = 1 from by decide, leb, if_pos (by decide)]; rfl
theorem exP2 : (putO exO2 == [2]) = true := by decide
theorem exP3 : (putO exO3 == [3, 1]) = true := by
  have : putO exO3 = 3 :: lebI (-1) := by unfold putO; rfl
  rw [this, lebm1]; rfl

theorem shown14 : AFun Try.prog 12 [] [] (bool true) [] := by
  refine AFun.of_walk hP Try.func12 rfl rfl rfl (by simp) rfl ?_
  have q2 : AFun Try.prog 10 [.d (.agg [.lit (.int .u8 2), .lit (.slice none 0 0), .lit (.int .i64 0), .lit (.int .i64 0), .lit (.slice none 0 0)])] [] (.tup [.own 0, errno 0]) [.own 1 ((putO exO2).map encB)] := AFun.arg1 (opPut exO2 fitI2 (by decide)) (fun rows β w X v h => nilO rows β w X v h)
  have q3 : AFun Try.prog 10 [.d (.agg [.lit (.int .u8 3), .lit (.slice none 0 0), .lit (.int .i64 (-1)), .lit (.int .i64 0), .lit (.slice none 0 0)])] [] (.tup [.own 0, errno 0]) [.own 1 ((putO exO3).map encB)] := AFun.arg1 (opPut exO3 fitI3 (by decide)) (fun rows β w X v h => nilO rows β w X v h)
  simp only [Try.f12, am, simprocAttr, tys]
  refine ACall.of (q2) [] [] rfl (by simp) (by simp) (by simp) (by repeat' (first | exact trivial | exact .inl rfl | exact .inr rfl | exact .inr ⟨rfl, by simp⟩ | exact .inr ⟨rfl, rfl, by simp⟩ | apply And.intro)) (by repeat' (first | exact trivial | rfl | exact (tkC_ren.1 _ _).symm | (simp; done) | apply And.intro)) (by first | exact .inl rfl | (refine .inr ⟨trivial, ?_⟩; first | (intro row h; rcases List.mem_singleton.1 h with rfl; exact nvB _) | (intro row h; cases h; done) | (simp; done)) | (refine .inr ⟨by simp [nvP, nvP.nvPs, nvD, nilS, errno], ?_⟩; first | (intro row h; rcases List.mem_singleton.1 h with rfl; exact nvB _) | (intro row h; cases h; done) | (simp [nvRow, nvD, nvP]; done))) ?_
  simp only [errno, am, simprocAttr, tys]
  refine ACall.of (q3) [] [] rfl (by simp) (by simp) (by simp) (by repeat' (first | exact trivial | exact .inl rfl | exact .inr rfl | exact .inr ⟨rfl, by simp⟩ | exact .inr ⟨rfl, rfl, by simp⟩ | apply And.intro)) (by repeat' (first | exact trivial | rfl | exact (tkC_ren.1 _ _).symm | (simp; done) | apply And.intro)) (by first | exact .inl rfl | (refine .inr ⟨trivial, ?_⟩; first | (intro row h; rcases List.mem_singleton.1 h with rfl; exact nvB _) | (intro row h; cases h; done) | (simp; done)) | (refine .inr ⟨by simp [nvP, nvP.nvPs, nvD, nilS, errno], ?_⟩; first | (intro row h; rcases List.mem_singleton.1 h with rfl; exact nvB _) | (intro row h; cases h; done) | (simp [nvRow, nvD, nvP]; done))) ?_
  simp only [errno, bool, strOf_encB, bl_toList, exP2, exP3, FinR, evRes, evRVs, evRV, am, simprocAttr, tys]
  exact ⟨_, [], [], rfl, Ent.plain rfl rfl rfl trivial rfl, rfl, rfl⟩
end Go.Proofs.Ytkadildabhkocaa
