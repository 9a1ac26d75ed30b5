/- Proved here: what functions of the program compute, and plain laws. No condition. -/
import Derived.Test.YtldckdbdgbpmpaaRefAll
set_option linter.unusedSimpArgs false
set_option linter.unusedVariables false
namespace Go.Proofs.Ytldckdbdgbpmpaa
open Go Go.AM

theorem AFun.argsN {f : Nat} {ps ps' : List PV} {lent : List Row} {r : PV} {out : List Row} (h : AFun Try.prog f ps lent r out) (hp : ∀ rows β w X vs, repPs rows β w X ps' vs → repPs rows β w X ps vs) : AFun Try.prog f ps' lent r out :=
  fun B β X w vs hk h0 hm hps => h B β X w vs hk h0 hm (hp _ _ _ _ _ hps)
theorem shown10 : AFun Try.prog 10 [] [] (bool true) [] := by
  refine AFun.of_walk hP Try.func10 rfl rfl rfl (by simp) rfl ?_
  have cT := mergeTwo [(1, 5, ()), (3, 5, ())] [(3, 7, ()), (4, 7, ())] (by simp) (by simp)
  have e : ofP ([(1, 5, ()), (3, 5, ())] ++ [(3, 7, ()), (4, 7, ())]) = [(1, 5, ()), (3, 7, ()), (4, 7, ())] := by decide
  have cS := same04 [(1, 5, ()), (3, 7, ()), (4, 7, ())] [(1, 5, ()), (3, 7, ()), (4, 7, ())] (by simp) (by simp)
  rw [e] at cT
  simp only [List.map_cons, List.map_nil, encP] at cT cS
  simp only [decide_true] at cS
  simp only [Try.f10, am, simprocAttr, tys]
  refine ACall.frz [0, 1] ?_
  simp only [frzs, frz, frzRows_app, frzRow, am, simprocAttr, tys]
  refine ACall.of (cT) [] [] rfl (by simp) (by simp) (by simp) (by repeat' (first | exact trivial | exact .inl rfl | exact .inr rfl | exact .inr ⟨rfl, rfl, rfl, by simp; done⟩ | exact .inr ⟨rfl, by simp; done⟩ | exact .inr ⟨rfl, rfl, by simp; done⟩ | apply And.intro)) (by repeat' (first | exact trivial | rfl | exact (tkC_ren.1 _ _).symm | (simp; done) | apply And.intro)) (by first | exact .inl rfl | (refine .inr ⟨trivial, ?_⟩; first | (intro row h; rcases List.mem_singleton.1 h with rfl; exact nvB _) | (intro row h; rcases List.mem_singleton.1 h with rfl; exact nvP2 _) | (intro row h; cases h; done) | (simp; done)) | (refine .inr ⟨by simp [nvP, nvP.nvPs, nvD, nilS, errno], ?_⟩; first | (intro row h; rcases List.mem_singleton.1 h with rfl; exact nvB _) | (intro row h; cases h; done) | (simp [nvRow, nvD, nvP]; done))) ?_
  simp only [am, simprocAttr, tys]
  refine ACall.of (cS) [] [2] rfl (by simp) (by simp) (by simp) (by repeat' (first | exact trivial | exact .inl rfl | exact .inr rfl | exact .inr ⟨rfl, rfl, rfl, by simp; done⟩ | exact .inr ⟨rfl, by simp; done⟩ | exact .inr ⟨rfl, rfl, by simp; done⟩ | apply And.intro)) (by repeat' (first | exact trivial | rfl | exact (tkC_ren.1 _ _).symm | (simp; done) | apply And.intro)) (by first | exact .inl rfl | (refine .inr ⟨trivial, ?_⟩; first | (intro row h; rcases List.mem_singleton.1 h with rfl; exact nvB _) | (intro row h; rcases List.mem_singleton.1 h with rfl; exact nvP2 _) | (intro row h; cases h; done) | (simp; done)) | (refine .inr ⟨by simp [nvP, nvP.nvPs, nvD, nilS, errno], ?_⟩; first | (intro row h; rcases List.mem_singleton.1 h with rfl; exact nvB _) | (intro row h; cases h; done) | (simp [nvRow, nvD, nvP]; done))) ?_
  simp only [bool, FinR, evRes, evRVs, evRV, am, simprocAttr, tys]
  exact ⟨_, [], [], rfl, Ent.plain rfl rfl rfl trivial rfl, rfl, rfl⟩
end Go.Proofs.Ytldckdbdgbpmpaa
