/- Proved here: what functions of the program compute, and plain laws. No condition. -/
import Derived.Test.YtldckdbdgbpmpaaShown10
set_option linter.unusedSimpArgs false
set_option linter.unusedVariables false
namespace Go.Proofs.Ytldckdbdgbpmpaa
open Go Go.AM

theorem ofP_app_l (a b : List PtT) : ofP (ofP a ++ b) = ofP (a ++ b) := ofP_congr fun k => by rw [lastOf_append, lastOf_append, lastOf_ofP]
theorem ofP_app_r (a b : List PtT) : ofP (a ++ ofP b) = ofP (a ++ b) := ofP_congr fun k => by rw [lastOf_append, lastOf_append, lastOf_ofP]
theorem ofP_twice (a : List PtT) : ofP (a ++ a) = ofP a := ofP_congr fun k => by rw [lastOf_append]; cases lastOf k a <;> rfl

set_option maxRecDepth 8000 in
theorem lawParts (a b c : List PtT) (ha : a.length ≤ 9223372036854775807) (hb : b.length ≤ 9223372036854775807) (hc : c.length ≤ 9223372036854775807) :
    AFun Try.prog 4 [.d (.sl 2 (a.map encP)), .d (.sl 2 (b.map encP)), .d (.sl 2 (c.map encP))] [] (bool true) [] := by
  refine AFun.of_walk hP Try.func4 rfl rfl rfl (by simp) rfl ?_
  have cS := some10 [a, b, c] (by simp) (fun l hl => by simp at hl; rcases hl with rfl | rfl | rfl <;> assumption)
  have es : someP [a, b, c] = [a.take 200, b.take 200, c.take 200] := rfl
  have la : (a.take 200).length ≤ 200 := by rw [List.length_take]; omega
  have lb : (b.take 200).length ≤ 200 := by rw [List.length_take]; omega
  have lc : (c.take 200).length ≤ 200 := by rw [List.length_take]; omega
  rw [es] at cS
  generalize a.take 200 = x at *
  generalize b.take 200 = y at *
  generalize c.take 200 = z at *
  have cA := mergeAll [x, y, z] (by simp) (fun l hl => by simp at hl; rcases hl with rfl | rfl | rfl <;> omega)
  have eA : [x, y, z].flatten = x ++ y ++ z := by simp
  rw [eA] at cA
  have n1 := ofP_len (x ++ y)
  have n2 := ofP_len (y ++ z)
  have n3 := ofP_len (x ++ y ++ z)
  simp only [List.length_append] at n1 n2 n3
  have t1 := mergeTwo x y (by omega) (by omega)
  have t2 := mergeTwo (ofP (x ++ y)) z (by omega) (by omega)
  rw [ofP_app_l] at t2
  have t3 := mergeTwo y z (by omega) (by omega)
  have t4 := mergeTwo x (ofP (y ++ z)) (by omega) (by omega)
  rw [ofP_app_r, ← List.append_assoc] at t4
  have t5 := mergeOf (ofP (x ++ y ++ z)) (by omega)
  rw [ofP_ofP] at t5
  have t6 := mergeTwo (ofP (x ++ y ++ z)) (ofP (x ++ y ++ z)) (by omega) (by omega)
  rw [ofP_twice, ofP_ofP] at t6
  have cE := same04 (ofP (x ++ y ++ z)) (ofP (x ++ y ++ z)) (by omega) (by omega)
  simp only [decide_true] at cE
  generalize ofP (x ++ y ++ z) = C at *
  generalize ofP (x ++ y) = D at *
  generalize ofP (y ++ z) = E at *
  have g0 : ([x, y, z].map encS)[0]? = some [DV.sl 2 (x.map encP)] := rfl
  have g1 : ([x, y, z].map encS)[1]? = some [DV.sl 2 (y.map encP)] := rfl
  have g2 : ([x, y, z].map encS)[2]? = some [DV.sl 2 (z.map encP)] := rfl
  have gl : ([x, y, z].map encS).length = 3 := rfl
  generalize hM : [x, y, z].map encS = M at *
  simp only [List.map_cons, List.map_nil, encS] at cS
  simp only [Try.f4, am, simprocAttr, tys]
  refine ACall.of (shown10) [] [] rfl (by simp) (by simp) (by simp) (by repeat' (first | exact trivial | exact .inl rfl | exact .inr rfl | exact .inr ⟨rfl, rfl, rfl, by simp; done⟩ | exact .inr ⟨rfl, by simp; done⟩ | exact .inr ⟨rfl, rfl, by simp; done⟩ | apply And.intro)) (by repeat' (first | exact trivial | rfl | exact (tkC_ren.1 _ _).symm | (simp; done) | apply And.intro)) (by first | exact .inl rfl | (refine .inr ⟨trivial, ?_⟩; first | (intro row h; rcases List.mem_singleton.1 h with rfl; exact nvB _) | (intro row h; cases h; done) | (simp; done)) | (refine .inr ⟨by simp [nvP, nvP.nvPs, nvD, nilS, errno], ?_⟩; first | (intro row h; rcases List.mem_singleton.1 h with rfl; exact nvB _) | (intro row h; cases h; done) | (simp [nvRow, nvD, nvP]; done))) ?_
  simp only [bool, am, simprocAttr, tys]
  refine ACall.frz [0] ?_
  simp only [frzs, frz, frzRows_app, frzRow, List.mem_singleton, am, simprocAttr, tys]
  refine ACall.of (cS) [] [] rfl (by simp) (by simp) (by simp) (by repeat' (first | exact trivial | exact .inl rfl | exact .inr rfl | exact .inr ⟨rfl, rfl, rfl, by simp; done⟩ | exact .inr ⟨rfl, by simp; done⟩ | exact .inr ⟨rfl, rfl, by simp; done⟩ | apply And.intro)) (by repeat' (first | exact trivial | rfl | exact (tkC_ren.1 _ _).symm | (simp; done) | apply And.intro)) (by first | exact .inl rfl | (refine .inr ⟨trivial, ?_⟩; first | (intro row h; rcases List.mem_singleton.1 h with rfl; exact nvB _) | (intro row h; cases h; done) | (simp; done)) | (refine .inr ⟨by simp [nvP, nvP.nvPs, nvD, nilS, errno], ?_⟩; first | (intro row h; rcases List.mem_singleton.1 h with rfl; exact nvB _) | (intro row h; cases h; done) | (simp [nvRow, nvD, nvP]; done))) ?_
  simp only [am, simprocAttr, tys]
  refine ACall.of (cA) [] [] rfl (by simp) (by simp) (by simp) (by repeat' (first | exact trivial | exact .inl rfl | exact .inr rfl | exact .inr ⟨rfl, rfl, rfl, by simp; done⟩ | exact .inr ⟨rfl, by simp; done⟩ | exact .inr ⟨rfl, rfl, by simp; done⟩ | apply And.intro)) (by repeat' (first | exact trivial | rfl | exact (tkC_ren.1 _ _).symm | (simp; done) | apply And.intro)) (by first | exact .inl rfl | (refine .inr ⟨trivial, ?_⟩; first | (intro row h; rcases List.mem_singleton.1 h with rfl; exact nvB _) | (intro row h; cases h; done) | (simp; done)) | (refine .inr ⟨by simp [nvP, nvP.nvPs, nvD, nilS, errno], ?_⟩; first | (intro row h; rcases List.mem_singleton.1 h with rfl; exact nvB _) | (intro row h; cases h; done) | (simp [nvRow, nvD, nvP]; done))) ?_
  simp only [g0, g1, g2, gl, am, simprocAttr, tys]
  refine ACallD.of (t1) (by kernel_rfl) [] [] rfl (by simp) (by simp) (by simp) (by simp) (by repeat' (first | exact trivial | exact .inl rfl | exact .inr rfl | exact .inr ⟨rfl, rfl, rfl, by simp; done⟩ | exact .inr ⟨rfl, by simp; done⟩ | exact .inr ⟨rfl, rfl, by simp; done⟩ | apply And.intro)) (by repeat' (first | exact trivial | rfl | exact (tkC_ren.1 _ _).symm | (simp; done) | apply And.intro)) (by first | exact .inl rfl | (refine .inr ⟨trivial, ?_⟩; first | (intro row h; rcases List.mem_singleton.1 h with rfl; exact nvB _) | (intro row h; cases h; done) | (simp; done)) | (refine .inr ⟨by simp [nvP, nvP.nvPs, nvD, nilS, errno], ?_⟩; first | (intro row h; rcases List.mem_singleton.1 h with rfl; exact nvB _) | (intro row h; cases h; done) | (simp [nvRow, nvD, nvP]; done))) rfl rfl rfl rfl ?_
  simp only [g0, g1, g2, gl, am, simprocAttr, tys]
  refine ACallD.of (t2) (by kernel_rfl) [] [] rfl (by simp) (by simp) (by simp) (by simp) (by repeat' (first | exact trivial | exact .inl rfl | exact .inr rfl | exact .inr ⟨rfl, rfl, rfl, by simp; done⟩ | exact .inr ⟨rfl, by simp; done⟩ | exact .inr ⟨rfl, rfl, by simp; done⟩ | apply And.intro)) (by repeat' (first | exact trivial | rfl | exact (tkC_ren.1 _ _).symm | (simp; done) | apply And.intro)) (by first | exact .inl rfl | (refine .inr ⟨trivial, ?_⟩; first | (intro row h; rcases List.mem_singleton.1 h with rfl; exact nvB _) | (intro row h; cases h; done) | (simp; done)) | (refine .inr ⟨by simp [nvP, nvP.nvPs, nvD, nilS, errno], ?_⟩; first | (intro row h; rcases List.mem_singleton.1 h with rfl; exact nvB _) | (intro row h; cases h; done) | (simp [nvRow, nvD, nvP]; done))) rfl rfl rfl rfl ?_
  simp only [g0, g1, g2, gl, am, simprocAttr, tys]
  refine ACallD.of (cE) (by kernel_rfl) [] [] rfl (by simp) (by simp) (by simp) (by simp) (by repeat' (first | exact trivial | exact .inl rfl | exact .inr rfl | exact .inr ⟨rfl, rfl, rfl, by simp; done⟩ | exact .inr ⟨rfl, by simp; done⟩ | exact .inr ⟨rfl, rfl, by simp; done⟩ | apply And.intro)) (by repeat' (first | exact trivial | rfl | exact (tkC_ren.1 _ _).symm | (simp; done) | apply And.intro)) (by first | exact .inl rfl | (refine .inr ⟨trivial, ?_⟩; first | (intro row h; rcases List.mem_singleton.1 h with rfl; exact nvB _) | (intro row h; cases h; done) | (simp; done)) | (refine .inr ⟨by simp [nvP, nvP.nvPs, nvD, nilS, errno], ?_⟩; first | (intro row h; rcases List.mem_singleton.1 h with rfl; exact nvB _) | (intro row h; cases h; done) | (simp [nvRow, nvD, nvP]; done))) rfl rfl rfl rfl ?_
  simp only [bool, g0, g1, g2, gl, am, simprocAttr, tys]
  refine ACallD.of (t3) (by kernel_rfl) [] [] rfl (by simp) (by simp) (by simp) (by simp) (by repeat' (first | exact trivial | exact .inl rfl | exact .inr rfl | exact .inr ⟨rfl, rfl, rfl, by simp; done⟩ | exact .inr ⟨rfl, by simp; done⟩ | exact .inr ⟨rfl, rfl, by simp; done⟩ | apply And.intro)) (by repeat' (first | exact trivial | rfl | exact (tkC_ren.1 _ _).symm | (simp; done) | apply And.intro)) (by first | exact .inl rfl | (refine .inr ⟨trivial, ?_⟩; first | (intro row h; rcases List.mem_singleton.1 h with rfl; exact nvB _) | (intro row h; cases h; done) | (simp; done)) | (refine .inr ⟨by simp [nvP, nvP.nvPs, nvD, nilS, errno], ?_⟩; first | (intro row h; rcases List.mem_singleton.1 h with rfl; exact nvB _) | (intro row h; cases h; done) | (simp [nvRow, nvD, nvP]; done))) rfl rfl rfl rfl ?_
  simp only [g0, g1, g2, gl, am, simprocAttr, tys]
  refine ACallD.of (t4) (by kernel_rfl) [] [] rfl (by simp) (by simp) (by simp) (by simp) (by repeat' (first | exact trivial | exact .inl rfl | exact .inr rfl | exact .inr ⟨rfl, rfl, rfl, by simp; done⟩ | exact .inr ⟨rfl, by simp; done⟩ | exact .inr ⟨rfl, rfl, by simp; done⟩ | apply And.intro)) (by repeat' (first | exact trivial | rfl | exact (tkC_ren.1 _ _).symm | (simp; done) | apply And.intro)) (by first | exact .inl rfl | (refine .inr ⟨trivial, ?_⟩; first | (intro row h; rcases List.mem_singleton.1 h with rfl; exact nvB _) | (intro row h; cases h; done) | (simp; done)) | (refine .inr ⟨by simp [nvP, nvP.nvPs, nvD, nilS, errno], ?_⟩; first | (intro row h; rcases List.mem_singleton.1 h with rfl; exact nvB _) | (intro row h; cases h; done) | (simp [nvRow, nvD, nvP]; done))) rfl rfl rfl rfl ?_
  simp only [g0, g1, g2, gl, am, simprocAttr, tys]
  refine ACallD.of (cE) (by kernel_rfl) [] [] rfl (by simp) (by simp) (by simp) (by simp) (by repeat' (first | exact trivial | exact .inl rfl | exact .inr rfl | exact .inr ⟨rfl, rfl, rfl, by simp; done⟩ | exact .inr ⟨rfl, by simp; done⟩ | exact .inr ⟨rfl, rfl, by simp; done⟩ | apply And.intro)) (by repeat' (first | exact trivial | rfl | exact (tkC_ren.1 _ _).symm | (simp; done) | apply And.intro)) (by first | exact .inl rfl | (refine .inr ⟨trivial, ?_⟩; first | (intro row h; rcases List.mem_singleton.1 h with rfl; exact nvB _) | (intro row h; cases h; done) | (simp; done)) | (refine .inr ⟨by simp [nvP, nvP.nvPs, nvD, nilS, errno], ?_⟩; first | (intro row h; rcases List.mem_singleton.1 h with rfl; exact nvB _) | (intro row h; cases h; done) | (simp [nvRow, nvD, nvP]; done))) rfl rfl rfl rfl ?_
  simp only [bool, am, simprocAttr, tys]
  refine ACallD.of (t5) (by kernel_rfl) [] [] rfl (by simp) (by simp) (by simp) (by simp) (by repeat' (first | exact trivial | exact .inl rfl | exact .inr rfl | exact .inr ⟨rfl, rfl, rfl, by simp; done⟩ | exact .inr ⟨rfl, by simp; done⟩ | exact .inr ⟨rfl, rfl, by simp; done⟩ | apply And.intro)) (by repeat' (first | exact trivial | rfl | exact (tkC_ren.1 _ _).symm | (simp; done) | apply And.intro)) (by first | exact .inl rfl | (refine .inr ⟨trivial, ?_⟩; first | (intro row h; rcases List.mem_singleton.1 h with rfl; exact nvB _) | (intro row h; cases h; done) | (simp; done)) | (refine .inr ⟨by simp [nvP, nvP.nvPs, nvD, nilS, errno], ?_⟩; first | (intro row h; rcases List.mem_singleton.1 h with rfl; exact nvB _) | (intro row h; cases h; done) | (simp [nvRow, nvD, nvP]; done))) rfl rfl rfl rfl ?_
  simp only [am, simprocAttr, tys]
  refine ACallD.of (cE) (by kernel_rfl) [] [] rfl (by simp) (by simp) (by simp) (by simp) (by repeat' (first | exact trivial | exact .inl rfl | exact .inr rfl | exact .inr ⟨rfl, rfl, rfl, by simp; done⟩ | exact .inr ⟨rfl, by simp; done⟩ | exact .inr ⟨rfl, rfl, by simp; done⟩ | apply And.intro)) (by repeat' (first | exact trivial | rfl | exact (tkC_ren.1 _ _).symm | (simp; done) | apply And.intro)) (by first | exact .inl rfl | (refine .inr ⟨trivial, ?_⟩; first | (intro row h; rcases List.mem_singleton.1 h with rfl; exact nvB _) | (intro row h; cases h; done) | (simp; done)) | (refine .inr ⟨by simp [nvP, nvP.nvPs, nvD, nilS, errno], ?_⟩; first | (intro row h; rcases List.mem_singleton.1 h with rfl; exact nvB _) | (intro row h; cases h; done) | (simp [nvRow, nvD, nvP]; done))) rfl rfl rfl rfl ?_
  simp only [bool, am, simprocAttr, tys]
  refine ACallD.of (t6) (by kernel_rfl) [] [] rfl (by simp) (by simp) (by simp) (by simp) (by repeat' (first | exact trivial | exact .inl rfl | exact .inr rfl | exact .inr ⟨rfl, rfl, rfl, by simp; done⟩ | exact .inr ⟨rfl, by simp; done⟩ | exact .inr ⟨rfl, rfl, by simp; done⟩ | apply And.intro)) (by repeat' (first | exact trivial | rfl | exact (tkC_ren.1 _ _).symm | (simp; done) | apply And.intro)) (by first | exact .inl rfl | (refine .inr ⟨trivial, ?_⟩; first | (intro row h; rcases List.mem_singleton.1 h with rfl; exact nvB _) | (intro row h; cases h; done) | (simp; done)) | (refine .inr ⟨by simp [nvP, nvP.nvPs, nvD, nilS, errno], ?_⟩; first | (intro row h; rcases List.mem_singleton.1 h with rfl; exact nvB _) | (intro row h; cases h; done) | (simp [nvRow, nvD, nvP]; done))) rfl rfl rfl rfl ?_
  simp only [am, simprocAttr, tys]
  refine ACallD.of (cE) (by kernel_rfl) [] [] rfl (by simp) (by simp) (by simp) (by simp) (by repeat' (first | exact trivial | exact .inl rfl | exact .inr rfl | exact .inr ⟨rfl, rfl, rfl, by simp; done⟩ | exact .inr ⟨rfl, by simp; done⟩ | exact .inr ⟨rfl, rfl, by simp; done⟩ | apply And.intro)) (by repeat' (first | exact trivial | rfl | exact (tkC_ren.1 _ _).symm | (simp; done) | apply And.intro)) (by first | exact .inl rfl | (refine .inr ⟨trivial, ?_⟩; first | (intro row h; rcases List.mem_singleton.1 h with rfl; exact nvB _) | (intro row h; cases h; done) | (simp; done)) | (refine .inr ⟨by simp [nvP, nvP.nvPs, nvD, nilS, errno], ?_⟩; first | (intro row h; rcases List.mem_singleton.1 h with rfl; exact nvB _) | (intro row h; cases h; done) | (simp [nvRow, nvD, nvP]; done))) rfl rfl rfl rfl ?_
  simp only [bool, FinR, evRes, evRVs, evRV, am, simprocAttr, tys]
  exact ⟨by kernel_rfl, ⟨_, [], [], rfl, Ent.plain rfl rfl rfl trivial rfl, rfl, rfl⟩⟩

set_option maxRecDepth 8000 in
theorem lawOf (a b : List PtT) (t : Int) (ha : a.length ≤ 9223372036854775807) (hb : b.length ≤ 9223372036854775807) :
    AFun Try.prog 8 [.d (.sl 2 (a.map encP)), .d (.sl 2 (b.map encP)), int t] [] (bool true) [] := by
  refine AFun.of_walk hP Try.func8 rfl rfl rfl (by simp) rfl ?_
  have cF1 := few10 a ha
  have cF2 := few10 b hb
  have la : (a.take 600).length ≤ 600 := by rw [List.length_take]; omega
  have lb : (b.take 600).length ≤ 600 := by rw [List.length_take]; omega
  generalize a.take 600 = x at *
  generalize b.take 600 = y at *
  have cS := mergeSplit x t (by omega)
  have cR := refSplit x t (by omega)
  have cO := mergeOf x (by omega)
  have cP := refOf x (by omega)
  have cT := mergeTwo x y (by omega) (by omega)
  have cA := refAll [x, y] (by simp) (fun l hl => by simp at hl; rcases hl with rfl | rfl <;> omega)
  have eA : [x, y].flatten = x ++ y := by simp
  rw [eA] at cA
  have n1 := ofP_len (x ++ y)
  have n2 := ofP_len x
  rw [List.length_append] at n1
  have cE := fun (z : List PtT) (h : z.length ≤ 9223372036854775807) => same04 z z h h
  simp only [decide_true] at cE
  have e1 := cE (ofP x) (by omega)
  have e2 := cE (ofP (x ++ y)) (by omega)
  have e3 := cE ((ofP x).take (lowN (ofP x) t)) (by rw [List.length_take]; omega)
  have e4 := cE ((ofP x).drop (lowN (ofP x) t)) (by rw [List.length_drop]; omega)
  have e5 := cE x (by omega)
  generalize (ofP x).take (lowN (ofP x) t) = A at *
  generalize (ofP x).drop (lowN (ofP x) t) = Z at *
  generalize ofP (x ++ y) = D at *
  generalize ofP x = C at *
  simp only [List.map_cons, List.map_nil, encS] at cA
  simp only [int] at cS cR
  simp only [Try.f8, int, am, simprocAttr, tys]
  refine ACall.of (cF1) [] [] rfl (by simp) (by simp) (by simp) (by repeat' (first | exact trivial | exact .inl rfl | exact .inr rfl | exact .inr ⟨rfl, rfl, rfl, by simp; done⟩ | exact .inr ⟨rfl, by simp; done⟩ | exact .inr ⟨rfl, rfl, by simp; done⟩ | apply And.intro)) (by repeat' (first | exact trivial | rfl | exact (tkC_ren.1 _ _).symm | (simp; done) | apply And.intro)) (by first | exact .inl rfl | (refine .inr ⟨trivial, ?_⟩; first | (intro row h; rcases List.mem_singleton.1 h with rfl; exact nvB _) | (intro row h; cases h; done) | (simp; done)) | (refine .inr ⟨by simp [nvP, nvP.nvPs, nvD, nilS, errno], ?_⟩; first | (intro row h; rcases List.mem_singleton.1 h with rfl; exact nvB _) | (intro row h; cases h; done) | (simp [nvRow, nvD, nvP]; done))) ?_
  simp only [am, simprocAttr, tys]
  refine ACall.of (cF2) [] [] rfl (by simp) (by simp) (by simp) (by repeat' (first | exact trivial | exact .inl rfl | exact .inr rfl | exact .inr ⟨rfl, rfl, rfl, by simp; done⟩ | exact .inr ⟨rfl, by simp; done⟩ | exact .inr ⟨rfl, rfl, by simp; done⟩ | apply And.intro)) (by repeat' (first | exact trivial | rfl | exact (tkC_ren.1 _ _).symm | (simp; done) | apply And.intro)) (by first | exact .inl rfl | (refine .inr ⟨trivial, ?_⟩; first | (intro row h; rcases List.mem_singleton.1 h with rfl; exact nvB _) | (intro row h; cases h; done) | (simp; done)) | (refine .inr ⟨by simp [nvP, nvP.nvPs, nvD, nilS, errno], ?_⟩; first | (intro row h; rcases List.mem_singleton.1 h with rfl; exact nvB _) | (intro row h; cases h; done) | (simp [nvRow, nvD, nvP]; done))) ?_
  simp only [List.length_map, am, simprocAttr, tys]
  refine ⟨⟨by omega, by omega⟩, ?_⟩
  refine ACall.of (cS) [] [] rfl (by simp) (by simp) (by simp) (by repeat' (first | exact trivial | exact .inl rfl | exact .inr rfl | exact .inr ⟨rfl, rfl, rfl, by simp; done⟩ | exact .inr ⟨rfl, by simp; done⟩ | exact .inr ⟨rfl, rfl, by simp; done⟩ | apply And.intro)) (by repeat' (first | exact trivial | rfl | exact (tkC_ren.1 _ _).symm | (simp; done) | apply And.intro)) (by first | exact .inl rfl | (refine .inr ⟨trivial, ?_⟩; first | (intro row h; rcases List.mem_singleton.1 h with rfl; exact nvB _) | (intro row h; cases h; done) | (simp; done)) | (refine .inr ⟨by simp [nvP, nvP.nvPs, nvD, nilS, errno], ?_⟩; first | (intro row h; rcases List.mem_singleton.1 h with rfl; exact nvB _) | (intro row h; cases h; done) | (simp [nvRow, nvD, nvP]; done))) ?_
  simp only [am, simprocAttr, tys]
  refine ACall.of (cR) [] [] rfl (by simp) (by simp) (by simp) (by repeat' (first | exact trivial | exact .inl rfl | exact .inr rfl | exact .inr ⟨rfl, rfl, rfl, by simp; done⟩ | exact .inr ⟨rfl, by simp; done⟩ | exact .inr ⟨rfl, rfl, by simp; done⟩ | apply And.intro)) (by repeat' (first | exact trivial | rfl | exact (tkC_ren.1 _ _).symm | (simp; done) | apply And.intro)) (by first | exact .inl rfl | (refine .inr ⟨trivial, ?_⟩; first | (intro row h; rcases List.mem_singleton.1 h with rfl; exact nvB _) | (intro row h; cases h; done) | (simp; done)) | (refine .inr ⟨by simp [nvP, nvP.nvPs, nvD, nilS, errno], ?_⟩; first | (intro row h; rcases List.mem_singleton.1 h with rfl; exact nvB _) | (intro row h; cases h; done) | (simp [nvRow, nvD, nvP]; done))) ?_
  simp only [am, simprocAttr, tys]
  refine ACall.of (shown10) [] [] rfl (by simp) (by simp) (by simp) (by repeat' (first | exact trivial | exact .inl rfl | exact .inr rfl | exact .inr ⟨rfl, rfl, rfl, by simp; done⟩ | exact .inr ⟨rfl, by simp; done⟩ | exact .inr ⟨rfl, rfl, by simp; done⟩ | apply And.intro)) (by repeat' (first | exact trivial | rfl | exact (tkC_ren.1 _ _).symm | (simp; done) | apply And.intro)) (by first | exact .inl rfl | (refine .inr ⟨trivial, ?_⟩; first | (intro row h; rcases List.mem_singleton.1 h with rfl; exact nvB _) | (intro row h; cases h; done) | (simp; done)) | (refine .inr ⟨by simp [nvP, nvP.nvPs, nvD, nilS, errno], ?_⟩; first | (intro row h; rcases List.mem_singleton.1 h with rfl; exact nvB _) | (intro row h; cases h; done) | (simp [nvRow, nvD, nvP]; done))) ?_
  simp only [bool, am, simprocAttr, tys]
  refine ACall.of (cO) [] [] rfl (by simp) (by simp) (by simp) (by repeat' (first | exact trivial | exact .inl rfl | exact .inr rfl | exact .inr ⟨rfl, rfl, rfl, by simp; done⟩ | exact .inr ⟨rfl, by simp; done⟩ | exact .inr ⟨rfl, rfl, by simp; done⟩ | apply And.intro)) (by repeat' (first | exact trivial | rfl | exact (tkC_ren.1 _ _).symm | (simp; done) | apply And.intro)) (by first | exact .inl rfl | (refine .inr ⟨trivial, ?_⟩; first | (intro row h; rcases List.mem_singleton.1 h with rfl; exact nvB _) | (intro row h; cases h; done) | (simp; done)) | (refine .inr ⟨by simp [nvP, nvP.nvPs, nvD, nilS, errno], ?_⟩; first | (intro row h; rcases List.mem_singleton.1 h with rfl; exact nvB _) | (intro row h; cases h; done) | (simp [nvRow, nvD, nvP]; done))) ?_
  simp only [am, simprocAttr, tys]
  refine ACall.of (cP) [] [] rfl (by simp) (by simp) (by simp) (by repeat' (first | exact trivial | exact .inl rfl | exact .inr rfl | exact .inr ⟨rfl, rfl, rfl, by simp; done⟩ | exact .inr ⟨rfl, by simp; done⟩ | exact .inr ⟨rfl, rfl, by simp; done⟩ | apply And.intro)) (by repeat' (first | exact trivial | rfl | exact (tkC_ren.1 _ _).symm | (simp; done) | apply And.intro)) (by first | exact .inl rfl | (refine .inr ⟨trivial, ?_⟩; first | (intro row h; rcases List.mem_singleton.1 h with rfl; exact nvB _) | (intro row h; cases h; done) | (simp; done)) | (refine .inr ⟨by simp [nvP, nvP.nvPs, nvD, nilS, errno], ?_⟩; first | (intro row h; rcases List.mem_singleton.1 h with rfl; exact nvB _) | (intro row h; cases h; done) | (simp [nvRow, nvD, nvP]; done))) ?_
  simp only [am, simprocAttr, tys]
  refine ACall.of (e1) [] [] rfl (by simp) (by simp) (by simp) (by repeat' (first | exact trivial | exact .inl rfl | exact .inr rfl | exact .inr ⟨rfl, rfl, rfl, by simp; done⟩ | exact .inr ⟨rfl, by simp; done⟩ | exact .inr ⟨rfl, rfl, by simp; done⟩ | apply And.intro)) (by repeat' (first | exact trivial | rfl | exact (tkC_ren.1 _ _).symm | (simp; done) | apply And.intro)) (by first | exact .inl rfl | (refine .inr ⟨trivial, ?_⟩; first | (intro row h; rcases List.mem_singleton.1 h with rfl; exact nvB _) | (intro row h; cases h; done) | (simp; done)) | (refine .inr ⟨by simp [nvP, nvP.nvPs, nvD, nilS, errno], ?_⟩; first | (intro row h; rcases List.mem_singleton.1 h with rfl; exact nvB _) | (intro row h; cases h; done) | (simp [nvRow, nvD, nvP]; done))) ?_
  simp only [bool, am, simprocAttr, tys]
  refine ACall.of (cT) [] [] rfl (by simp) (by simp) (by simp) (by repeat' (first | exact trivial | exact .inl rfl | exact .inr rfl | exact .inr ⟨rfl, rfl, rfl, by simp; done⟩ | exact .inr ⟨rfl, by simp; done⟩ | exact .inr ⟨rfl, rfl, by simp; done⟩ | apply And.intro)) (by repeat' (first | exact trivial | rfl | exact (tkC_ren.1 _ _).symm | (simp; done) | apply And.intro)) (by first | exact .inl rfl | (refine .inr ⟨trivial, ?_⟩; first | (intro row h; rcases List.mem_singleton.1 h with rfl; exact nvB _) | (intro row h; cases h; done) | (simp; done)) | (refine .inr ⟨by simp [nvP, nvP.nvPs, nvD, nilS, errno], ?_⟩; first | (intro row h; rcases List.mem_singleton.1 h with rfl; exact nvB _) | (intro row h; cases h; done) | (simp [nvRow, nvD, nvP]; done))) ?_
  simp only [am, simprocAttr, tys]
  refine ACall.frz [2] ?_
  simp only [frzs, frz, frzRows_app, frzRow, List.mem_singleton, am, simprocAttr, tys]
  refine ACall.of (cA) [] [] rfl (by simp) (by simp) (by simp) (by repeat' (first | exact trivial | exact .inl rfl | exact .inr rfl | exact .inr ⟨rfl, rfl, rfl, by simp; done⟩ | exact .inr ⟨rfl, by simp; done⟩ | exact .inr ⟨rfl, rfl, by simp; done⟩ | apply And.intro)) (by repeat' (first | exact trivial | rfl | exact (tkC_ren.1 _ _).symm | (simp; done) | apply And.intro)) (by first | exact .inl rfl | (refine .inr ⟨trivial, ?_⟩; first | (intro row h; rcases List.mem_singleton.1 h with rfl; exact nvB _) | (intro row h; cases h; done) | (simp; done)) | (refine .inr ⟨by simp [nvP, nvP.nvPs, nvD, nilS, errno], ?_⟩; first | (intro row h; rcases List.mem_singleton.1 h with rfl; exact nvB _) | (intro row h; cases h; done) | (simp [nvRow, nvD, nvP]; done))) ?_
  simp only [am, simprocAttr, tys]
  refine ACall.of (e2) [] [] rfl (by simp) (by simp) (by simp) (by repeat' (first | exact trivial | exact .inl rfl | exact .inr rfl | exact .inr ⟨rfl, rfl, rfl, by simp; done⟩ | exact .inr ⟨rfl, by simp; done⟩ | exact .inr ⟨rfl, rfl, by simp; done⟩ | apply And.intro)) (by repeat' (first | exact trivial | rfl | exact (tkC_ren.1 _ _).symm | (simp; done) | apply And.intro)) (by first | exact .inl rfl | (refine .inr ⟨trivial, ?_⟩; first | (intro row h; rcases List.mem_singleton.1 h with rfl; exact nvB _) | (intro row h; cases h; done) | (simp; done)) | (refine .inr ⟨by simp [nvP, nvP.nvPs, nvD, nilS, errno], ?_⟩; first | (intro row h; rcases List.mem_singleton.1 h with rfl; exact nvB _) | (intro row h; cases h; done) | (simp [nvRow, nvD, nvP]; done))) ?_
  simp only [bool, am, simprocAttr, tys]
  refine ACall.of (e3) [] [] rfl (by simp) (by simp) (by simp) (by repeat' (first | exact trivial | exact .inl rfl | exact .inr rfl | exact .inr ⟨rfl, rfl, rfl, by simp; done⟩ | exact .inr ⟨rfl, by simp; done⟩ | exact .inr ⟨rfl, rfl, by simp; done⟩ | apply And.intro)) (by repeat' (first | exact trivial | rfl | exact (tkC_ren.1 _ _).symm | (simp; done) | apply And.intro)) (by first | exact .inl rfl | (refine .inr ⟨trivial, ?_⟩; first | (intro row h; rcases List.mem_singleton.1 h with rfl; exact nvB _) | (intro row h; cases h; done) | (simp; done)) | (refine .inr ⟨by simp [nvP, nvP.nvPs, nvD, nilS, errno], ?_⟩; first | (intro row h; rcases List.mem_singleton.1 h with rfl; exact nvB _) | (intro row h; cases h; done) | (simp [nvRow, nvD, nvP]; done))) ?_
  simp only [bool, am, simprocAttr, tys]
  refine ACall.of (e4) [] [] rfl (by simp) (by simp) (by simp) (by repeat' (first | exact trivial | exact .inl rfl | exact .inr rfl | exact .inr ⟨rfl, rfl, rfl, by simp; done⟩ | exact .inr ⟨rfl, by simp; done⟩ | exact .inr ⟨rfl, rfl, by simp; done⟩ | apply And.intro)) (by repeat' (first | exact trivial | rfl | exact (tkC_ren.1 _ _).symm | (simp; done) | apply And.intro)) (by first | exact .inl rfl | (refine .inr ⟨trivial, ?_⟩; first | (intro row h; rcases List.mem_singleton.1 h with rfl; exact nvB _) | (intro row h; cases h; done) | (simp; done)) | (refine .inr ⟨by simp [nvP, nvP.nvPs, nvD, nilS, errno], ?_⟩; first | (intro row h; rcases List.mem_singleton.1 h with rfl; exact nvB _) | (intro row h; cases h; done) | (simp [nvRow, nvD, nvP]; done))) ?_
  simp only [bool, am, simprocAttr, tys]
  refine ACall.of (e5) [] [1] rfl (by simp) (by simp) (by simp) (by repeat' (first | exact trivial | exact .inl rfl | exact .inr rfl | exact .inr ⟨rfl, rfl, rfl, by simp; done⟩ | exact .inr ⟨rfl, by simp; done⟩ | exact .inr ⟨rfl, rfl, by simp; done⟩ | apply And.intro)) (by repeat' (first | exact trivial | rfl | exact (tkC_ren.1 _ _).symm | (simp; done) | apply And.intro)) (by first | exact .inl rfl | (refine .inr ⟨trivial, ?_⟩; first | (intro row h; rcases List.mem_singleton.1 h with rfl; exact nvB _) | (intro row h; cases h; done) | (simp; done)) | (refine .inr ⟨by simp [nvP, nvP.nvPs, nvD, nilS, errno], ?_⟩; first | (intro row h; rcases List.mem_singleton.1 h with rfl; exact nvB _) | (intro row h; cases h; done) | (simp [nvRow, nvD, nvP]; done))) ?_
  simp only [bool, FinR, evRes, evRVs, evRV, am, simprocAttr, tys]
  exact ⟨_, [], [], rfl, Ent.plain rfl rfl rfl trivial rfl, rfl, rfl⟩
end Go.Proofs.Ytldckdbdgbpmpaa
