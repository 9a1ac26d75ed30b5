/- Proved here: what functions of the program compute, and plain laws. No condition. -/
import Derived.Test.YtldckdbdgbpmpaaRefOf
import Derived.Test.YtldckdbdgbpmpaaSplit
import Derived.Test.YtldckdbdgbpmpaaAll
set_option linter.unusedSimpArgs false
set_option linter.unusedVariables false
namespace Go.Proofs.Ytldckdbdgbpmpaa
open Go Go.AM

theorem flat_len : ∀ (ls : List (List PtT)) (n : Nat), (∀ l ∈ ls, l.length ≤ n) → ls.flatten.length ≤ ls.length * n
  | [], n, _ => Nat.zero_le _
  | l :: ls, n, h => by
    have h1 := flat_len ls n (fun x hx => h x (by simp [hx]))
    have h2 := h l (by simp)
    rw [List.flatten_cons, List.length_append, List.length_cons, Nat.add_mul]
    omega
set_option maxRecDepth 8000 in
theorem refAll (ls : List (List PtT)) (hn : ls.length ≤ 100) (hl : ∀ l ∈ ls, l.length ≤ 10000) : AFun Try.prog 14 [.d (.sl 1 (ls.map encS))] [] (.d (.sl 2 ((ofP ls.flatten).map encP))) [] := by
  refine AFun.of_walk hP Try.func14 rfl rfl rfl (by simp) rfl ?_
  simp only [Try.f14, am, simprocAttr, tys]
  refine ALoopW.ghost 3 2 rfl ?_
  simp only [am, simprocAttr, tys]
  refine ALoopW.intro 19 0 (ι := { i : Nat // i ≤ ls.length }) (fun i => [(0, .d (.sl 1 (ls.map encS))), (3, .own 0), (4, int i.1)]) (fun i => [.own 2 ((ls.take i.1).flatten.map encP)]) (fun i => ls.length - i.1)
    ⟨0, Nat.zero_le _⟩ [] [0] ?_ (fun ⟨i, hi⟩ => ?_)
  · exact ⟨rfl, rfl, by simp, (fun i hi => absurd hi (Nat.not_lt_zero _)), ⟨.inr rfl, .inr rfl, .inr rfl, trivial⟩, ⟨.inr ⟨by decide, rfl⟩, trivial⟩, rfl, by decide, rfl, (by first | rfl | (simp [scRow, tkC_scs]; done) | (simp [scRow, scB]; done))⟩
  simp only at hi ⊢
  rcases Nat.lt_or_ge i ls.length with hlt | hge
  · have hI : ((i : Int) < ((ls.length : Nat) : Int)) := by omega
    have hb : ls[i]? = some ls[i] := List.getElem?_eq_getElem hlt
    have wi : IntKind.i64.wrap ((i : Int) + 1) = ((i + 1 : Nat) : Int) := by rw [IntWalk.i64_in _ (by omega)]; simp
    have htk : (ls.take (i + 1)).flatten = (ls.take i).flatten ++ ls[i] := by
      have h : ls.take (i + 1) = ls.take i ++ [ls[i]] := List.take_succ_eq_append_getElem hlt
      rw [h, List.flatten_append]; simp
    have hxl := hl _ (List.getElem_mem hlt)
    have hfl := flat_len (ls.take i) 10000 (fun l h => hl l (List.mem_of_mem_take h))
    rw [List.length_take] at hfl
    generalize ls[i] = l at *
    have eapp : (ls.take i).flatten.map encP ++ l.map encP = (ls.take (i + 1)).flatten.map encP := by rw [htk, List.map_append]
    generalize (ls.take i).flatten = R at *
    simp only [int, hI, hb, encS, List.length_map, Int.natCast_nonneg, Int.toNat_natCast, am, simprocAttr, tys]
    simp only [wi, eapp, List.length_map, am, simprocAttr, tys]
    exact ⟨⟨by omega, by omega⟩, ⟨i + 1, hlt⟩, [], [1], ⟨rfl, rfl, by simp, (fun i hi => absurd hi (Nat.not_lt_zero _)), ⟨.inr rfl, .inr rfl, .inr rfl, trivial⟩, ⟨.inr ⟨by decide, rfl⟩, trivial⟩, rfl, by decide, rfl, (by first | rfl | (simp [scRow, tkC_scs]; done) | (simp [scRow, scB]; done))⟩, by show ls.length - (i + 1) < ls.length - i; omega⟩
  · have hI : ¬ ((i : Int) < ((ls.length : Nat) : Int)) := by omega
    rw [List.take_of_length_le hge]
    have hfl := flat_len ls 10000 hl
    have cO := refOf ls.flatten (by omega)
    simp only [int, hI, List.length_map, am, simprocAttr, tys]
    refine ACall.frz [0] ?_
    simp only [frzs, frz, frzRows_app, frzRow, List.mem_singleton, am, simprocAttr, tys]
    refine ACall.of (cO) [] [] rfl (by simp) (by simp) (by simp) (by repeat' (first | exact trivial | exact .inl rfl | exact .inr rfl | exact .inr ⟨rfl, rfl, rfl, by simp; done⟩ | exact .inr ⟨rfl, by simp; done⟩ | exact .inr ⟨rfl, rfl, by simp; done⟩ | apply And.intro)) (by repeat' (first | exact trivial | rfl | exact (tkC_ren.1 _ _).symm | (simp; done) | apply And.intro)) (by first | exact .inl rfl | (refine .inr ⟨trivial, ?_⟩; first | (intro row h; rcases List.mem_singleton.1 h with rfl; exact nvB _) | (intro row h; rcases List.mem_singleton.1 h with rfl; exact nvP2 _) | (intro row h; cases h; done) | (simp; done)) | (refine .inr ⟨by simp [nvP, nvP.nvPs, nvD, nilS, errno], ?_⟩; first | (intro row h; rcases List.mem_singleton.1 h with rfl; exact nvB _) | (intro row h; cases h; done) | (simp [nvRow, nvD, nvP]; done))) ?_
    simp only [FinR, evRes, evRVs, evRV, am, simprocAttr, tys]
    exact ⟨_, [], [], rfl, Ent.plain rfl rfl rfl trivial rfl, rfl, rfl⟩

theorem low_filter : ∀ (C : List PtT) (t : Int), Srt C → C.filter (fun x => decide (x.1 < t)) = C.take (lowN C t) ∧ C.filter (fun x => !decide (x.1 < t)) = C.drop (lowN C t)
  | [], t, _ => ⟨rfl, rfl⟩
  | x :: C, t, h => by
    have h2 := List.pairwise_cons.1 h
    have ih := low_filter C t h2.2
    by_cases hx : x.1 < t
    · have e : lowN (x :: C) t = lowN C t + 1 := by unfold lowN; rw [List.filter_cons_of_pos (by simpa using hx)]; rfl
      rw [e, List.filter_cons_of_pos (by simpa using hx), List.filter_cons_of_neg (by simpa using hx), ih.1, ih.2]
      exact ⟨rfl, rfl⟩
    · have hall : ∀ y ∈ x :: C, ¬ y.1 < t := fun y hy => by
        rcases List.mem_cons.1 hy with rfl | hy
        · exact hx
        · have := h2.1 y hy; omega
      have e : lowN (x :: C) t = 0 := by
        unfold lowN
        rw [List.filter_eq_nil_iff.2 (fun y hy => by simpa using hall y hy)]; rfl
      rw [e]
      refine ⟨?_, ?_⟩
      · rw [List.filter_eq_nil_iff.2 (fun y hy => by simpa using hall y hy)]; rfl
      · rw [List.filter_eq_self.2 (fun y hy => by simpa using hall y hy)]; rfl

set_option maxRecDepth 8000 in
theorem refSplit (l : List PtT) (t : Int) (hl : l.length ≤ 10000000000) :
    AFun Try.prog 20 [.d (.sl 2 (l.map encP)), int t] [] (.tup [.d (.sl 2 (((ofP l).take (lowN (ofP l) t)).map encP)), .d (.sl 2 (((ofP l).drop (lowN (ofP l) t)).map encP))]) [] := by
  refine AFun.of_walk hP Try.func20 rfl rfl rfl (by simp) rfl ?_
  have cO := refOf l hl
  have hol := ofP_len l
  have hf := low_filter (ofP l) t (ofP_rise l).srt
  rw [← hf.1, ← hf.2]
  generalize ofP l = C at *
  simp only [Try.f20, int, am, simprocAttr, tys]
  refine ACall.of (cO) [] [] rfl (by simp) (by simp) (by simp) (by repeat' (first | exact trivial | exact .inl rfl | exact .inr rfl | exact .inr ⟨rfl, rfl, rfl, by simp; done⟩ | exact .inr ⟨rfl, by simp; done⟩ | exact .inr ⟨rfl, rfl, by simp; done⟩ | apply And.intro)) (by repeat' (first | exact trivial | rfl | exact (tkC_ren.1 _ _).symm | (simp; done) | apply And.intro)) (by first | exact .inl rfl | (refine .inr ⟨trivial, ?_⟩; first | (intro row h; rcases List.mem_singleton.1 h with rfl; exact nvB _) | (intro row h; rcases List.mem_singleton.1 h with rfl; exact nvP2 _) | (intro row h; cases h; done) | (simp; done)) | (refine .inr ⟨by simp [nvP, nvP.nvPs, nvD, nilS, errno], ?_⟩; first | (intro row h; rcases List.mem_singleton.1 h with rfl; exact nvB _) | (intro row h; cases h; done) | (simp [nvRow, nvD, nvP]; done))) ?_
  simp only [am, simprocAttr, tys]
  refine ALoopW.ghost 6 2 rfl ?_
  simp only [am, simprocAttr, tys]
  refine ALoopW.ghost 7 2 rfl ?_
  simp only [am, simprocAttr, tys]
  refine ALoopW.intro 41 0 (ι := { i : Nat // i ≤ C.length }) (fun i => [(1, int t), (6, .own 0), (7, .own 1), (8, .d (.sl 2 (C.map encP))), (9, int i.1)]) (fun i => [.own 2 (((C.take i.1).filter (fun x => decide (x.1 < t))).map encP), .own 2 (((C.take i.1).filter (fun x => !decide (x.1 < t))).map encP)]) (fun i => C.length - i.1)
    ⟨0, Nat.zero_le _⟩ [] [0, 1] ?_ (fun ⟨i, hi⟩ => ?_)
  · exact ⟨rfl, rfl, by simp, (fun i hi => absurd hi (Nat.not_lt_zero _)), ⟨.inr rfl, .inr rfl, .inr rfl, .inr rfl, .inr rfl, trivial⟩, ⟨.inr ⟨by decide, rfl⟩, .inr ⟨by decide, rfl⟩, trivial⟩, rfl, by decide, rfl, (by first | rfl | (simp [scRow, tkC_scs]; done) | (simp [scRow, scB]; done))⟩
  simp only at hi ⊢
  rcases Nat.lt_or_ge i C.length with hlt | hge
  · have hI : ((i : Int) < ((C.length : Nat) : Int)) := by omega
    have hb : C[i]? = some C[i] := List.getElem?_eq_getElem hlt
    have wi : IntKind.i64.wrap ((i : Int) + 1) = ((i + 1 : Nat) : Int) := by rw [IntWalk.i64_in _ (by omega)]; simp
    have h : C.take (i + 1) = C.take i ++ [C[i]] := List.take_succ_eq_append_getElem hlt
    have l1 : ((C.take i).filter (fun x => decide (x.1 < t))).length ≤ i := by have := List.length_filter_le (fun x : PtT => decide (x.1 < t)) (C.take i); rw [List.length_take] at this; omega
    have l2 : ((C.take i).filter (fun x => !decide (x.1 < t))).length ≤ i := by have := List.length_filter_le (fun x : PtT => !decide (x.1 < t)) (C.take i); rw [List.length_take] at this; omega
    generalize C[i] = x at *
    by_cases hx : x.1 < t
    · have e1 : (C.take (i + 1)).filter (fun x => decide (x.1 < t)) = (C.take i).filter (fun x => decide (x.1 < t)) ++ [x] := by rw [h, List.filter_append, List.filter_cons_of_pos (by simpa using hx)]; rfl
      have e2 : (C.take (i + 1)).filter (fun x => !decide (x.1 < t)) = (C.take i).filter (fun x => !decide (x.1 < t)) := by rw [h, List.filter_append, List.filter_cons_of_neg (by simpa using hx)]; simp
      rw [← e2]
      have eapp : ((C.take i).filter (fun x => decide (x.1 < t))).map encP ++ [[DV.lit (.int .i64 x.1), DV.lit (.int .i64 x.2.1)]] = ((C.take (i + 1)).filter (fun x => decide (x.1 < t))).map encP := by rw [e1, List.map_append]; rfl
      generalize (C.take i).filter (fun x => decide (x.1 < t)) = A at *
      simp only [int, hI, hb, hx, encP, List.length_map, Int.natCast_nonneg, Int.toNat_natCast, am, simprocAttr, tys]
      simp only [wi, eapp, List.length_map, am, simprocAttr, tys]
      exact ⟨by omega, ⟨i + 1, hlt⟩, [], [3, 1], ⟨rfl, rfl, by simp, (fun i hi => absurd hi (Nat.not_lt_zero _)), ⟨.inr rfl, .inr rfl, .inr rfl, .inr rfl, .inr rfl, trivial⟩, ⟨.inr ⟨by decide, rfl⟩, .inr ⟨by decide, rfl⟩, trivial⟩, rfl, by decide, rfl, (by first | rfl | (simp [scRow, tkC_scs]; done) | (simp [scRow, scB]; done))⟩, by show C.length - (i + 1) < C.length - i; omega⟩
    · have e1 : (C.take (i + 1)).filter (fun x => decide (x.1 < t)) = (C.take i).filter (fun x => decide (x.1 < t)) := by rw [h, List.filter_append, List.filter_cons_of_neg (by simpa using hx)]; simp
      have e2 : (C.take (i + 1)).filter (fun x => !decide (x.1 < t)) = (C.take i).filter (fun x => !decide (x.1 < t)) ++ [x] := by rw [h, List.filter_append, List.filter_cons_of_pos (by simpa using hx)]; rfl
      rw [← e1]
      have eapp : ((C.take i).filter (fun x => !decide (x.1 < t))).map encP ++ [[DV.lit (.int .i64 x.1), DV.lit (.int .i64 x.2.1)]] = ((C.take (i + 1)).filter (fun x => !decide (x.1 < t))).map encP := by rw [e2, List.map_append]; rfl
      generalize (C.take i).filter (fun x => !decide (x.1 < t)) = A at *
      simp only [int, hI, hb, hx, encP, List.length_map, Int.natCast_nonneg, Int.toNat_natCast, am, simprocAttr, tys]
      simp only [wi, eapp, List.length_map, am, simprocAttr, tys]
      exact ⟨by omega, ⟨i + 1, hlt⟩, [], [0, 3], ⟨rfl, rfl, by simp, (fun i hi => absurd hi (Nat.not_lt_zero _)), ⟨.inr rfl, .inr rfl, .inr rfl, .inr rfl, .inr rfl, trivial⟩, ⟨.inr ⟨by decide, rfl⟩, .inr ⟨by decide, rfl⟩, trivial⟩, rfl, by decide, rfl, (by first | rfl | (simp [scRow, tkC_scs]; done) | (simp [scRow, scB]; done))⟩, by show C.length - (i + 1) < C.length - i; omega⟩
  · have hI : ¬ ((i : Int) < ((C.length : Nat) : Int)) := by omega
    rw [List.take_of_length_le hge]
    simp only [int, hI, List.length_map, FinR, evRes, evRVs, evRV, am, simprocAttr, tys]
    exact ⟨_, [0, 1], [], rfl, ⟨rfl, rfl, by simp, (fun i hi => absurd hi (Nat.not_lt_zero _)), trivial, trivial, rfl, by decide, rfl, (by first | rfl | (simp [scRow, tkC_scs]; done) | (simp [scRow, scB]; done))⟩, rfl, rfl⟩

set_option maxRecDepth 8000 in
theorem mergeTwo (a b : List PtT) (ha : a.length ≤ 10000) (hb : b.length ≤ 10000) : AFun Try.prog 15 [.d (.sl 2 (a.map encP)), .d (.sl 2 (b.map encP))] [] (.d (.sl 2 ((ofP (a ++ b)).map encP))) [] := by
  refine AFun.of_walk hP Try.func15 rfl rfl rfl (by simp) rfl ?_
  have cA := mergeAll [a, b] (by simp) (fun l hl => by simp at hl; rcases hl with rfl | rfl <;> assumption)
  have e : [a, b].flatten = a ++ b := by simp
  rw [e] at cA
  generalize a ++ b = C at *
  simp only [List.map_cons, List.map_nil, encS] at cA
  simp only [Try.f15, am, simprocAttr, tys]
  refine ACall.frz [0] ?_
  simp only [frzs, frz, frzRows_app, frzRow, List.mem_singleton, am, simprocAttr, tys]
  refine ACall.of (cA) [] [] rfl (by simp) (by simp) (by simp) (by repeat' (first | exact trivial | exact .inl rfl | exact .inr rfl | exact .inr ⟨rfl, rfl, rfl, by simp; done⟩ | exact .inr ⟨rfl, by simp; done⟩ | exact .inr ⟨rfl, rfl, by simp; done⟩ | apply And.intro)) (by repeat' (first | exact trivial | rfl | exact (tkC_ren.1 _ _).symm | (simp; done) | apply And.intro)) (by first | exact .inl rfl | (refine .inr ⟨trivial, ?_⟩; first | (intro row h; rcases List.mem_singleton.1 h with rfl; exact nvB _) | (intro row h; rcases List.mem_singleton.1 h with rfl; exact nvP2 _) | (intro row h; cases h; done) | (simp; done)) | (refine .inr ⟨by simp [nvP, nvP.nvPs, nvD, nilS, errno], ?_⟩; first | (intro row h; rcases List.mem_singleton.1 h with rfl; exact nvB _) | (intro row h; cases h; done) | (simp [nvRow, nvD, nvP]; done))) ?_
  simp only [FinR, evRes, evRVs, evRV, am, simprocAttr, tys]
  exact ⟨_, [], [], rfl, Ent.plain rfl rfl rfl trivial rfl, rfl, rfl⟩

set_option maxRecDepth 8000 in
theorem right04 (l : List PtT) (hl : l.length ≤ 10000000000) (hr : Rise l) : AFun Try.prog 17 [.d (.sl 2 (l.map encP))] [] (bool true) [] := by
  refine AFun.of_walk hP Try.func17 rfl rfl rfl (by simp) rfl ?_
  simp only [Try.f17, am, simprocAttr, tys]
  refine ALoopW.intro 22 0 (ι := Nat) (fun i => [(0, .d (.sl 2 (l.map encP))), (3, int (i + 1 : Nat))]) (fun _ => []) (fun i => l.length - i) 0 [] [] ?_ (fun i => ?_)
  · exact Ent.plain rfl rfl rfl (⟨.inr rfl, .inr rfl, trivial⟩) rfl
  rcases Nat.lt_or_ge (i + 1) l.length with hlt | hge
  · have hI : (((i + 1 : Nat) : Int) < ((l.length : Nat) : Int)) := by omega
    have hI0 : (((i : Nat) : Int) < ((l.length : Nat) : Int)) := by omega
    have hi : i < l.length := by omega
    have hx : l[i]? = some (l[i]'hi) := List.getElem?_eq_getElem hi
    have hy : l[i + 1]? = some (l[i + 1]'hlt) := List.getElem?_eq_getElem hlt
    have hxy : (l[i]'hi).1 < (l[i + 1]'hlt).1 := List.pairwise_iff_getElem.1 hr i (i + 1) hi hlt (Nat.lt_succ_self i)
    have wi : IntKind.i64.wrap (((i + 1 : Nat) : Int) + 1) = ((i + 1 + 1 : Nat) : Int) := by rw [IntWalk.i64_in _ (by omega)]; simp
    have wd : IntKind.i64.wrap (((i + 1 : Nat) : Int) - 1) = ((i : Nat) : Int) := by rw [IntWalk.i64_in _ (by omega)]; omega
    generalize l[i]'hi = x at *
    generalize l[i + 1]'hlt = y at *
    have hle : ¬ y.1 ≤ x.1 := by omega
    simp only [int, hI, hI0, hx, hy, wd, hle, encP, List.length_map, List.getElem?_map, Option.map_some, Int.natCast_nonneg, Int.toNat_natCast, am, simprocAttr, tys]
    refine ⟨by kernel_rfl, ?_⟩
    simp only [wi, am, simprocAttr, tys]
    exact ⟨i + 1, [], [], Ent.plain rfl rfl rfl (⟨.inr rfl, .inr rfl, trivial⟩) rfl, by show l.length - (i + 1) < l.length - i; omega⟩
  · have hI : ¬ (((i + 1 : Nat) : Int) < ((l.length : Nat) : Int)) := by omega
    simp only [int, bool, hI, List.length_map, FinR, evRes, evRVs, evRV, am, simprocAttr, tys]
    exact ⟨_, [], [], rfl, Ent.plain rfl rfl rfl trivial rfl, rfl, rfl⟩
end Go.Proofs.Ytldckdbdgbpmpaa
