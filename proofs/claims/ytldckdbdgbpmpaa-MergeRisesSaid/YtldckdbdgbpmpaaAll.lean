/- Proved here: what functions of the program compute, and plain laws. No condition. -/
import Derived.Test.YtldckdbdgbpmpaaHeapPP
import Derived.Test.YtldckdbdgbpmpaaAllLaw
import Derived.Test.YtldckdbdgbpmpaaSome
import Derived.Test.YtldckdbdgbpmpaaSplit
set_option linter.unusedSimpArgs false
set_option linter.unusedVariables false
namespace Go.Proofs.Ytldckdbdgbpmpaa
open Go Go.AM

theorem runsLen0 : AFun Try.prog 23 [nilS] [] (int 0) [] := by
  refine AFun.of_walk hP Try.func23 rfl rfl rfl (by simp) rfl ?_
  simp only [Try.f23, nilS, int, FinR, evRes, evRVs, evRV, am, simprocAttr, tys]
  exact ⟨_, [], [], rfl, Ent.plain rfl rfl rfl trivial rfl, rfl, rfl⟩
theorem tot_runsOf : ∀ (ls : List (List PtT)) (i : Nat), (∀ l ∈ ls, l.length ≤ 10000) → tot (runsOf i ls) ≤ ls.length * 10000
  | [], i, _ => Nat.le_refl _
  | l :: ls, i, h => by
    have h1 := tot_runsOf ls (i + 1) (fun l hl => h l (by simp [hl]))
    have h2 := h l (by simp)
    have h3 := ofP_len l
    rw [runsOf_cons, tot_app, List.length_cons]
    split
    · simp only [tot]; omega
    · simp only [tot]; omega
def rowsH : List RunT → List Row
  | [] => [.box [nilS]]
  | x :: h => [.box [.own 1], .own 2 ((x :: h).map encR)]
theorem rowsH_ne {h : List RunT} (h0 : h ≠ []) : rowsH h = [.box [.own 1], .own 2 (h.map encR)] := by
  cases h with
  | nil => exact absurd rfl h0
  | cons x h => rfl
theorem pushH_ne (h : List RunT) (r : RunT) : pushH h r ≠ [] := fun e => by have := pushH_len h r; rw [e] at this; simp at this

set_option maxRecDepth 8000 in
theorem mergeAll (ls : List (List PtT)) (hn : ls.length ≤ 100) (hl : ∀ l ∈ ls, l.length ≤ 10000) :
    AFun Try.prog 12 [.d (.sl 1 (ls.map encS))] [] (.d (.sl 2 ((ofP ls.flatten).map encP))) [] := by
  refine AFun.of_walk hP Try.func12 rfl rfl rfl (by simp) rfl ?_
  simp only [Try.f12, List.length_map, am, simprocAttr, tys]
  refine ALoopW.intro 71 0 (ι := { z : Nat × List RunT // z.1 ≤ ls.length ∧ Heap z.2 ∧ z.2.Perm (runsOf 0 (ls.take z.1)) }) (fun z => [(3, .ptr 0 0), (9, .d (.sl 1 (ls.map encS))), (10, int ls.length), (11, int z.1.1)]) (fun z => rowsH z.1.2) (fun z => ls.length - z.1.1)
    ⟨(0, []), Nat.zero_le _, heap_nil, List.Perm.refl _⟩ [] [0] ?_ (fun ⟨⟨i, h⟩, hi, hh, hp⟩ => ?_)
  · exact ⟨rfl, rfl, by simp, (fun i hi => absurd hi (Nat.not_lt_zero _)), ⟨.inr rfl, .inr rfl, .inr rfl, .inr rfl, trivial⟩, ⟨.inr ⟨by decide, rfl⟩, trivial⟩, rfl, by decide, rfl, (by first | rfl | (simp [scRow, tkC_scs]; done) | (simp [scRow, scB]; done))⟩
  simp only at hi hh hp ⊢
  rcases Nat.lt_or_ge i ls.length with hlt | hge
  · have hI : ((i : Int) < ((ls.length : Nat) : Int)) := by omega
    have hb : ls[i]? = some ls[i] := List.getElem?_eq_getElem hlt
    have hxl := hl _ (List.getElem_mem hlt)
    have w1 : IntKind.i64.wrap ((i : Int) + 1) = ((i + 1 : Nat) : Int) := by rw [IntWalk.i64_in _ (by omega)]; simp
    have htk : runsOf 0 (ls.take (i + 1)) = runsOf 0 (ls.take i) ++ runsOf i [ls[i]] := by
      rw [List.take_succ_eq_append_getElem hlt, runsOf_app, List.length_take, Nat.min_eq_left hi, Nat.zero_add]
    have hln : h.length ≤ 100 := by
      have h1 := hp.length_eq
      have h2 := runsOf_len (ls.take i) 0
      rw [List.length_take] at h2
      omega
    have hne : NE h := fun r hr => (runsOf_mem _ _ r (hp.subset hr)).2.1
    generalize ls[i] = l at *
    by_cases hl0 : l = []
    · have e1 : runsOf i [l] = [] := by rw [runsOf_cons, if_pos hl0]; rfl
      rw [e1, List.append_nil] at htk
      have hL : ¬ ((0 : Int) < ((l.length : Nat) : Int)) := by subst hl0; decide
      rcases h with _ | ⟨r0, h⟩
      · simp only [rowsH, nilS, int, hI, hb, hL, w1, encS, List.length_map, Int.natCast_nonneg, Int.toNat_natCast, am, simprocAttr, tys]
        exact ⟨⟨(i + 1, []), hlt, hh, by rw [htk]; exact hp⟩, [], [0], ⟨rfl, rfl, by simp, (fun i hi => absurd hi (Nat.not_lt_zero _)), ⟨.inr rfl, .inr rfl, .inr rfl, .inr rfl, trivial⟩, ⟨.inr ⟨by decide, rfl⟩, trivial⟩, rfl, by decide, rfl, (by first | rfl | (simp [scRow, tkC_scs]; done) | (simp [scRow, scB]; done))⟩, by show ls.length - (i + 1) < ls.length - i; omega⟩
      · rw [rowsH_ne (by simp)]
        simp only [nilS, int, hI, hb, hL, w1, encS, List.length_map, Int.natCast_nonneg, Int.toNat_natCast, am, simprocAttr, tys]
        exact ⟨⟨(i + 1, r0 :: h), hlt, hh, by rw [htk]; exact hp⟩, [], [0, 1], ⟨rfl, rfl, by simp, (fun i hi => absurd hi (Nat.not_lt_zero _)), ⟨.inr rfl, .inr rfl, .inr rfl, .inr rfl, trivial⟩, ⟨.inr ⟨by decide, rfl⟩, .inr ⟨by decide, rfl⟩, trivial⟩, rfl, by decide, rfl, (by first | rfl | (simp [scRow, tkC_scs]; done) | (simp [scRow, scB]; done))⟩, by show ls.length - (i + 1) < ls.length - i; omega⟩
    · have e1 : runsOf i [l] = [((i : Int), ofP l)] := by rw [runsOf_cons, if_neg hl0]; rfl
      rw [e1] at htk
      have hL : ((0 : Int) < ((l.length : Nat) : Int)) := by have := List.length_pos_iff.2 hl0; omega
      have cO := mergeOf l (by omega)
      by_cases h0 : h = []
      · subst h0
        have cP := heapPush0 ((i : Int), ofP l) (ofP_ne hl0)
        simp only [encR] at cP
        have hps := pushH_spec (r := ((i : Int), ofP l)) hh
        have epu : pushH [] ((i : Int), ofP l) = [((i : Int), ofP l)] := rfl
        rw [epu] at hps
        simp only [rowsH, nilS, int, hI, hb, hL, w1, encS, List.length_map, Int.natCast_nonneg, Int.toNat_natCast, am, simprocAttr, tys]
        refine ACall.of (cO) [] [] rfl (by simp) (by simp) (by simp) (by repeat' (first | exact trivial | exact .inl rfl | exact .inr rfl | exact .inr ⟨rfl, rfl, rfl, by simp; done⟩ | exact .inr ⟨rfl, by simp; done⟩ | exact .inr ⟨rfl, rfl, by simp; done⟩ | apply And.intro)) (by repeat' (first | exact trivial | rfl | exact (tkC_ren.1 _ _).symm | (simp; done) | apply And.intro)) (by first | exact .inl rfl | (refine .inr ⟨trivial, ?_⟩; first | (intro row h; rcases List.mem_singleton.1 h with rfl; exact nvB _) | (intro row h; rcases List.mem_singleton.1 h with rfl; exact nvP2 _) | (intro row h; cases h; done) | (simp; done)) | (refine .inr ⟨by simp [nvP, nvP.nvPs, nvD, nilS, errno], ?_⟩; first | (intro row h; rcases List.mem_singleton.1 h with rfl; exact nvB _) | (intro row h; cases h; done) | (simp [nvRow, nvD, nvP]; done))) ?_
        simp only [am, simprocAttr, tys]
        refine ACall.of (cP) [0] [] rfl (by simp) (by simp) (by simp) (by repeat' (first | exact trivial | exact .inl rfl | exact .inr rfl | exact .inr ⟨rfl, rfl, rfl, by simp; done⟩ | exact .inr ⟨rfl, by simp; done⟩ | exact .inr ⟨rfl, rfl, by simp; done⟩ | apply And.intro)) (by repeat' (first | exact trivial | rfl | exact (tkC_ren.1 _ _).symm | (simp; done) | apply And.intro)) (by first | exact .inl rfl | (refine .inr ⟨trivial, ?_⟩; first | (intro row h; rcases List.mem_singleton.1 h with rfl; exact nvB _) | (intro row h; rcases List.mem_singleton.1 h with rfl; exact nvP2 _) | (intro row h; cases h; done) | (simp; done)) | (refine .inr ⟨by simp [nvP, nvP.nvPs, nvD, nilS, errno], ?_⟩; first | (intro row h; rcases List.mem_singleton.1 h with rfl; exact nvB _) | (intro row h; cases h; done) | (simp [nvRow, nvD, nvP]; done))) ?_
        simp only [w1, am, simprocAttr, tys]
        exact ⟨⟨(i + 1, [((i : Int), ofP l)]), hlt, hps.1, by rw [htk]; exact hps.2.trans (hp.append_right _)⟩, [], [0, 1], ⟨rfl, rfl, by simp, (fun i hi => absurd hi (Nat.not_lt_zero _)), ⟨.inr rfl, .inr rfl, .inr rfl, .inr rfl, trivial⟩, ⟨.inr ⟨by decide, rfl⟩, .inr ⟨by decide, rfl⟩, trivial⟩, rfl, by decide, rfl, (by first | rfl | (simp [scRow, tkC_scs]; done) | (simp [scRow, scB]; done))⟩, by show ls.length - (i + 1) < ls.length - i; omega⟩
      · have cP := heapPush h ((i : Int), ofP l) hne (ofP_ne hl0) (by omega)
        simp only [encR] at cP
        have hps := pushH_spec (r := ((i : Int), ofP l)) hh
        have hpn := pushH_ne h ((i : Int), ofP l)
        generalize pushH h ((i : Int), ofP l) = h' at *
        rw [rowsH_ne h0]
        simp only [nilS, int, hI, hb, hL, w1, encS, List.length_map, Int.natCast_nonneg, Int.toNat_natCast, am, simprocAttr, tys]
        refine ACall.of (cO) [] [] rfl (by simp) (by simp) (by simp) (by repeat' (first | exact trivial | exact .inl rfl | exact .inr rfl | exact .inr ⟨rfl, rfl, rfl, by simp; done⟩ | exact .inr ⟨rfl, by simp; done⟩ | exact .inr ⟨rfl, rfl, by simp; done⟩ | apply And.intro)) (by repeat' (first | exact trivial | rfl | exact (tkC_ren.1 _ _).symm | (simp; done) | apply And.intro)) (by first | exact .inl rfl | (refine .inr ⟨trivial, ?_⟩; first | (intro row h; rcases List.mem_singleton.1 h with rfl; exact nvB _) | (intro row h; rcases List.mem_singleton.1 h with rfl; exact nvP2 _) | (intro row h; cases h; done) | (simp; done)) | (refine .inr ⟨by simp [nvP, nvP.nvPs, nvD, nilS, errno], ?_⟩; first | (intro row h; rcases List.mem_singleton.1 h with rfl; exact nvB _) | (intro row h; cases h; done) | (simp [nvRow, nvD, nvP]; done))) ?_
        simp only [am, simprocAttr, tys]
        refine ACall.of (cP) [0, 1] [] rfl (by simp) (by simp) (by simp) (by repeat' (first | exact trivial | exact .inl rfl | exact .inr rfl | exact .inr ⟨rfl, rfl, rfl, by simp; done⟩ | exact .inr ⟨rfl, by simp; done⟩ | exact .inr ⟨rfl, rfl, by simp; done⟩ | apply And.intro)) (by repeat' (first | exact trivial | rfl | exact (tkC_ren.1 _ _).symm | (simp; done) | apply And.intro)) (by first | exact .inl rfl | (refine .inr ⟨trivial, ?_⟩; first | (intro row h; rcases List.mem_singleton.1 h with rfl; exact nvB _) | (intro row h; rcases List.mem_singleton.1 h with rfl; exact nvP2 _) | (intro row h; cases h; done) | (simp; done)) | (refine .inr ⟨by simp [nvP, nvP.nvPs, nvD, nilS, errno], ?_⟩; first | (intro row h; rcases List.mem_singleton.1 h with rfl; exact nvB _) | (intro row h; cases h; done) | (simp [nvRow, nvD, nvP]; done))) ?_
        simp only [w1, am, simprocAttr, tys]
        have hrw := rowsH_ne hpn
        refine ⟨⟨(i + 1, h'), hlt, hps.1, by rw [htk]; exact hps.2.trans (hp.append_right _)⟩, [], [0, 2], ?_, by show ls.length - (i + 1) < ls.length - i; omega⟩
        show Ent _ _ _ _ _ _ (rowsH h')
        rw [hrw]
        exact ⟨rfl, rfl, by simp, (fun i hi => absurd hi (Nat.not_lt_zero _)), ⟨.inr rfl, .inr rfl, .inr rfl, .inr rfl, trivial⟩, ⟨.inr ⟨by decide, rfl⟩, .inr ⟨by decide, rfl⟩, trivial⟩, rfl, by decide, rfl, (by first | rfl | (simp [scRow, tkC_scs]; done) | (simp [scRow, scB]; done))⟩
  · have hI : ¬ ((i : Int) < ((ls.length : Nat) : Int)) := by omega
    rw [List.take_of_length_le hge] at hp
    have hC := (Core.start ls).perm hp.symm
    have hF := ofP_rise ls.flatten
    have htot : tot h ≤ 1000000 := by
      have h1 := tot_runsOf ls 0 hl
      rw [tot_perm hp]; omega
    generalize ofP ls.flatten = F at *
    by_cases h0 : h = []
    · subst h0
      rw [← hC.done hF]
      simp only [rowsH, nilS, int, hI, am, simprocAttr, tys]
      refine ALoopW.ghost 6 2 rfl ?_
      simp only [am, simprocAttr, tys]
      refine ALoopW.intro 71 0 (ι := Unit) (fun _ => [(3, .ptr 0 0), (6, .own 1)]) (fun _ => [.box [nilS], .own 2 []]) (fun _ => 0) () [] [0, 1] ?_ (fun _ => ?_)
      · exact ⟨rfl, rfl, by simp, (fun i hi => absurd hi (Nat.not_lt_zero _)), ⟨.inr rfl, .inr rfl, trivial⟩, ⟨.inr ⟨by decide, rfl⟩, .inr ⟨by decide, rfl⟩, trivial⟩, rfl, by decide, rfl, (by first | rfl | (simp [scRow, tkC_scs]; done) | (simp [scRow, scB]; done))⟩
      have cN := runsLen0
      simp only [nilS] at cN
      simp only [nilS, am, simprocAttr, tys]
      refine ACall.of (cN) [] [] rfl (by simp) (by simp) (by simp) (by repeat' (first | exact trivial | exact .inl rfl | exact .inr rfl | exact .inr ⟨rfl, rfl, rfl, by simp; done⟩ | exact .inr ⟨rfl, by simp; done⟩ | exact .inr ⟨rfl, rfl, by simp; done⟩ | apply And.intro)) (by repeat' (first | exact trivial | rfl | exact (tkC_ren.1 _ _).symm | (simp; done) | apply And.intro)) (by first | exact .inl rfl | (refine .inr ⟨trivial, ?_⟩; first | (intro row h; rcases List.mem_singleton.1 h with rfl; exact nvB _) | (intro row h; rcases List.mem_singleton.1 h with rfl; exact nvP2 _) | (intro row h; cases h; done) | (simp; done)) | (refine .inr ⟨by simp [nvP, nvP.nvPs, nvD, nilS, errno], ?_⟩; first | (intro row h; rcases List.mem_singleton.1 h with rfl; exact nvB _) | (intro row h; cases h; done) | (simp [nvRow, nvD, nvP]; done))) ?_
      simp only [int, FinR, evRes, evRVs, evRV, am, simprocAttr, tys]
      exact ⟨_, [1], [], rfl, ⟨rfl, rfl, by simp, (fun i hi => absurd hi (Nat.not_lt_zero _)), trivial, trivial, rfl, by decide, rfl, (by first | rfl | (simp [scRow, tkC_scs]; done) | (simp [scRow, scB]; done))⟩, rfl, rfl⟩
    · rw [rowsH_ne h0]
      simp only [int, hI, am, simprocAttr, tys]
      refine ALoopW.ghost 6 2 rfl ?_
      simp only [am, simprocAttr, tys]
      have hHl : h.length ≤ 100 := by have h1 := hp.length_eq; have h2 := runsOf_len ls 0; omega
      refine ALoopW.intro 71 0 (ι := { z : List RunT × List PtT // Core z.1 z.2 F ∧ Heap z.1 ∧ z.1.length ≤ 100 ∧ z.2.length + tot z.1 ≤ 1000000 }) (fun z => [(3, .ptr 0 0), (6, .own 2)]) (fun z => [.box [.own 1], .own 2 (z.1.1.map encR), .own 2 (z.1.2.map encP)]) (fun z => tot z.1.1)
        ⟨(h, []), hC, hh, hHl, by simpa using htot⟩ [] [0, 1, 2] ?_ (fun ⟨⟨h, R⟩, hC, hh, hHl, ht⟩ => ?_)
      · exact ⟨rfl, rfl, by simp, (fun i hi => absurd hi (Nat.not_lt_zero _)), ⟨.inr rfl, .inr rfl, trivial⟩, ⟨.inr ⟨by decide, rfl⟩, .inr ⟨by decide, rfl⟩, .inr ⟨by decide, rfl⟩, trivial⟩, rfl, by decide, rfl, (by first | rfl | (simp [scRow, tkC_scs]; done) | (simp [scRow, scB]; done))⟩
      simp only at hC hh hHl ht ⊢
      have cN := runsLen h
      by_cases h0 : h = []
      · subst h0
        rw [← hC.done hF]
        simp only [List.length_nil] at cN
        simp only [am, simprocAttr, tys]
        refine ACall.of (cN) [1] [] rfl (by simp) (by simp) (by simp) (by repeat' (first | exact trivial | exact .inl rfl | exact .inr rfl | exact .inr ⟨rfl, rfl, rfl, by simp; done⟩ | exact .inr ⟨rfl, by simp; done⟩ | exact .inr ⟨rfl, rfl, by simp; done⟩ | apply And.intro)) (by repeat' (first | exact trivial | rfl | exact (tkC_ren.1 _ _).symm | (simp; done) | apply And.intro)) (by first | exact .inl rfl | (refine .inr ⟨trivial, ?_⟩; first | (intro row h; rcases List.mem_singleton.1 h with rfl; exact nvB _) | (intro row h; rcases List.mem_singleton.1 h with rfl; exact nvP2 _) | (intro row h; cases h; done) | (simp; done)) | (refine .inr ⟨by simp [nvP, nvP.nvPs, nvD, nilS, errno], ?_⟩; first | (intro row h; rcases List.mem_singleton.1 h with rfl; exact nvB _) | (intro row h; cases h; done) | (simp [nvRow, nvD, nvP]; done))) ?_
        simp only [int, FinR, evRes, evRVs, evRV, am, simprocAttr, tys]
        exact ⟨_, [2], [], rfl, ⟨rfl, rfl, by simp, (fun i hi => absurd hi (Nat.not_lt_zero _)), trivial, trivial, rfl, by decide, rfl, (by first | rfl | (simp [scRow, tkC_scs]; done) | (simp [scRow, scB]; done))⟩, rfl, rfl⟩
      have hlp : ((0 : Int) < ((h.length : Nat) : Int)) := by have := List.length_pos_iff.2 h0; omega
      have cO := heapPop h hC.ne h0 hh (by omega)
      obtain ⟨_, hh', hpm⟩ := popD_eq h0 hh
      have hln : (popH h).length ≤ 99 := by rw [popH_len]; omega
      have hfirst := heap_first h0 hh
      have hC' := hC.perm (hpm.symm.trans (List.perm_append_comm (l₁ := popH h) (l₂ := [at0 h 0])))
      have ht' := tot_perm hpm
      rw [tot_app] at ht'
      have hmin : ∀ r ∈ popH h, ¬ ltR r (at0 h 0) = true := fun r hr => hfirst r (hpm.subset (List.mem_append_left _ hr))
      generalize popH h = rest at *
      generalize at0 h 0 = x at *
      obtain ⟨w, X⟩ := x
      rcases hX : X with _ | ⟨p, tl⟩
      · exact absurd hX (hC'.ne (w, X) (by simp))
      have e1 : (X.map encP)[0]? = some (encP p) := by rw [hX]; rfl
      have e2 : ((X.map encP).take (tl.length + 1)).drop 1 = tl.map encP := by rw [hX, List.take_of_length_le (by simp)]; rfl
      have hXl : X.length = tl.length + 1 := by rw [hX]; rfl
      have b0 : ((1 : Int) ≤ ((tl.length + 1 : Nat) : Int)) := by omega
      have b1 : ((tl.length + 1 : Nat) : Int) ≤ ((tl.length + 1 : Nat) : Int) := Int.le_refl _
      simp only [tot] at ht'
      have hC' : Core ((w, X) :: rest) R F := hC'
      have hmore := hC'.more hX hmin
      have hsame := fun y => hC'.same hX hmin (y := y)
      have hl0 : tl = [] → left (w, X) tl ++ rest = rest := fun h => by unfold left; rw [if_pos h]; rfl
      have hl1 : tl ≠ [] → (left (w, X) tl ++ rest).Perm (pushH rest (w, tl)) := fun h => by
        unfold left; rw [if_neg h]
        exact (List.perm_append_comm (l₁ := [(w, tl)]) (l₂ := rest)).trans (pushH_spec hh').2.symm
      have hps := (pushH_spec (r := (w, tl)) hh').1
      have hpl := pushH_len rest (w, tl)
      have htp : tl ≠ [] → tot (pushH rest (w, tl)) = tl.length + tot rest := fun h => by rw [← tot_perm (hl1 h), tot_app, tot_left]
      have cP := fun ht => heapPush rest (w, tl) (fun r hr => hC'.ne r (List.mem_cons_of_mem _ hr)) ht (by omega)
      have hle : ∀ y ∈ R, y.1 ≤ p.1 := fun y hy => by have := hC'.be y hy (w, X) (by simp); unfold hd at this; rw [hX] at this; exact this
      generalize pushH rest (w, tl) = push at *
      simp only [encR] at cO cP
      by_cases hR0 : R = []
      · have hC2 := hmore (fun y hy => by rw [hR0] at hy; cases hy)
        have hRl : (R ++ [p]).length = 1 := by rw [hR0]; rfl
        subst hR0
        simp only [am, simprocAttr, tys]
        refine ACall.of (cN) [1] [] rfl (by simp) (by simp) (by simp) (by repeat' (first | exact trivial | exact .inl rfl | exact .inr rfl | exact .inr ⟨rfl, rfl, rfl, by simp; done⟩ | exact .inr ⟨rfl, by simp; done⟩ | exact .inr ⟨rfl, rfl, by simp; done⟩ | apply And.intro)) (by repeat' (first | exact trivial | rfl | exact (tkC_ren.1 _ _).symm | (simp; done) | apply And.intro)) (by first | exact .inl rfl | (refine .inr ⟨trivial, ?_⟩; first | (intro row h; rcases List.mem_singleton.1 h with rfl; exact nvB _) | (intro row h; rcases List.mem_singleton.1 h with rfl; exact nvP2 _) | (intro row h; cases h; done) | (simp; done)) | (refine .inr ⟨by simp [nvP, nvP.nvPs, nvD, nilS, errno], ?_⟩; first | (intro row h; rcases List.mem_singleton.1 h with rfl; exact nvB _) | (intro row h; cases h; done) | (simp [nvRow, nvD, nvP]; done))) ?_
        simp only [int, hlp, am, simprocAttr, tys]
        refine ACall.of (cO) [0, 1] [] rfl (by simp) (by simp) (by simp) (by repeat' (first | exact trivial | exact .inl rfl | exact .inr rfl | exact .inr ⟨rfl, rfl, rfl, by simp; done⟩ | exact .inr ⟨rfl, by simp; done⟩ | exact .inr ⟨rfl, rfl, by simp; done⟩ | apply And.intro)) (by repeat' (first | exact trivial | rfl | exact (tkC_ren.1 _ _).symm | (simp; done) | apply And.intro)) (by first | exact .inl rfl | (refine .inr ⟨trivial, ?_⟩; first | (intro row h; rcases List.mem_singleton.1 h with rfl; exact nvB _) | (intro row h; rcases List.mem_singleton.1 h with rfl; exact nvP2 _) | (intro row h; cases h; done) | (simp; done)) | (refine .inr ⟨by simp [nvP, nvP.nvPs, nvD, nilS, errno], ?_⟩; first | (intro row h; rcases List.mem_singleton.1 h with rfl; exact nvB _) | (intro row h; cases h; done) | (simp [nvRow, nvD, nvP]; done))) ?_
        by_cases htl : tl = []
        · have hT : ¬ ((0 : Int) < ((tl.length : Nat) : Int)) := by rw [htl]; decide
          rw [hl0 htl] at hC2
          simp only [e1, e2, hXl, hT, b0, b1, encP, List.length_map, am, simprocAttr, tys]
          exact ⟨by kernel_rfl, ⟨(rest, [p]), hC2, hh', by show rest.length ≤ 100; omega, by show 1 + tot rest ≤ _; omega⟩, [], [0, 3, 1030], ⟨rfl, rfl, by simp, (fun i hi => absurd hi (Nat.not_lt_zero _)), ⟨.inr rfl, .inr rfl, trivial⟩, ⟨.inr ⟨by decide, rfl⟩, .inr ⟨by decide, rfl⟩, .inr ⟨by decide, rfl⟩, trivial⟩, rfl, by decide, rfl, (by first | rfl | (simp [scRow, tkC_scs]; done) | (simp [scRow, scB]; done))⟩, by show tot rest < tot h; omega⟩
        · have hT : ((0 : Int) < ((tl.length : Nat) : Int)) := by have := List.length_pos_iff.2 htl; omega
          have cP := cP htl
          have hC2 := hC2.perm (hl1 htl)
          have htp := htp htl
          simp only [e1, e2, hXl, hT, b0, b1, encP, List.length_map, am, simprocAttr, tys]
          refine ⟨by kernel_rfl, ?_⟩
          refine ACall.of (cP) [0, 3] [] rfl (by simp) (by simp) (by simp) (by repeat' (first | exact trivial | exact .inl rfl | exact .inr rfl | exact .inr ⟨rfl, rfl, rfl, by simp; done⟩ | exact .inr ⟨rfl, by simp; done⟩ | exact .inr ⟨rfl, rfl, by simp; done⟩ | apply And.intro)) (by repeat' (first | exact trivial | rfl | exact (tkC_ren.1 _ _).symm | (simp; done) | apply And.intro)) (by first | exact .inl rfl | (refine .inr ⟨trivial, ?_⟩; first | (intro row h; rcases List.mem_singleton.1 h with rfl; exact nvB _) | (intro row h; rcases List.mem_singleton.1 h with rfl; exact nvP2 _) | (intro row h; cases h; done) | (simp; done)) | (refine .inr ⟨by simp [nvP, nvP.nvPs, nvD, nilS, errno], ?_⟩; first | (intro row h; rcases List.mem_singleton.1 h with rfl; exact nvB _) | (intro row h; cases h; done) | (simp [nvRow, nvD, nvP]; done))) ?_
          simp only [am, simprocAttr, tys]
          exact ⟨⟨(push, [p]), hC2, hps, by show push.length ≤ 100; omega, by show 1 + tot push ≤ _; omega⟩, [], [0, 1031, 1030], ⟨rfl, rfl, by simp, (fun i hi => absurd hi (Nat.not_lt_zero _)), ⟨.inr rfl, .inr rfl, trivial⟩, ⟨.inr ⟨by decide, rfl⟩, .inr ⟨by decide, rfl⟩, .inr ⟨by decide, rfl⟩, trivial⟩, rfl, by decide, rfl, (by first | rfl | (simp [scRow, tkC_scs]; done) | (simp [scRow, scB]; done))⟩, by show tot push < tot h; omega⟩
      · obtain ⟨S, y, hS⟩ : ∃ S y, R = S ++ [y] := ⟨R.dropLast, R.getLast hR0, (List.dropLast_concat_getLast hR0).symm⟩
        have hRl : R.length = S.length + 1 := by rw [hS]; simp
        have hRy : R[S.length]? = some y := by rw [hS]; simp
        have i1 : ((S.length : Nat) : Int) < ((S.length + 1 : Nat) : Int) := by omega
        have w1 : IntKind.i64.wrap (((S.length + 1 : Nat) : Int) - 1) = ((S.length : Nat) : Int) := by rw [IntWalk.i64_in _ (by omega)]; omega
        have hz : (((S.length + 1 : Nat) : Int) == 0) = false := by rw [beq_eq_false_iff_ne]; omega
        by_cases hyp : y.1 = p.1
        · have hne : (y.1 != p.1) = false := by rw [hyp]; exact bne_self_eq_false' _
          have hne' : (y.1 == p.1) = true := by rw [hyp]; exact beq_self_eq_true _
          have hC2 := hsame y (by rw [hS]; simp) hyp
          simp only [am, simprocAttr, tys]
          refine ACall.of (cN) [1] [] rfl (by simp) (by simp) (by simp) (by repeat' (first | exact trivial | exact .inl rfl | exact .inr rfl | exact .inr ⟨rfl, rfl, rfl, by simp; done⟩ | exact .inr ⟨rfl, by simp; done⟩ | exact .inr ⟨rfl, rfl, by simp; done⟩ | apply And.intro)) (by repeat' (first | exact trivial | rfl | exact (tkC_ren.1 _ _).symm | (simp; done) | apply And.intro)) (by first | exact .inl rfl | (refine .inr ⟨trivial, ?_⟩; first | (intro row h; rcases List.mem_singleton.1 h with rfl; exact nvB _) | (intro row h; rcases List.mem_singleton.1 h with rfl; exact nvP2 _) | (intro row h; cases h; done) | (simp; done)) | (refine .inr ⟨by simp [nvP, nvP.nvPs, nvD, nilS, errno], ?_⟩; first | (intro row h; rcases List.mem_singleton.1 h with rfl; exact nvB _) | (intro row h; cases h; done) | (simp [nvRow, nvD, nvP]; done))) ?_
          simp only [int, hlp, am, simprocAttr, tys]
          refine ACall.of (cO) [0, 1] [] rfl (by simp) (by simp) (by simp) (by repeat' (first | exact trivial | exact .inl rfl | exact .inr rfl | exact .inr ⟨rfl, rfl, rfl, by simp; done⟩ | exact .inr ⟨rfl, by simp; done⟩ | exact .inr ⟨rfl, rfl, by simp; done⟩ | apply And.intro)) (by repeat' (first | exact trivial | rfl | exact (tkC_ren.1 _ _).symm | (simp; done) | apply And.intro)) (by first | exact .inl rfl | (refine .inr ⟨trivial, ?_⟩; first | (intro row h; rcases List.mem_singleton.1 h with rfl; exact nvB _) | (intro row h; rcases List.mem_singleton.1 h with rfl; exact nvP2 _) | (intro row h; cases h; done) | (simp; done)) | (refine .inr ⟨by simp [nvP, nvP.nvPs, nvD, nilS, errno], ?_⟩; first | (intro row h; rcases List.mem_singleton.1 h with rfl; exact nvB _) | (intro row h; cases h; done) | (simp [nvRow, nvD, nvP]; done))) ?_
          by_cases htl : tl = []
          · have hT : ¬ ((0 : Int) < ((tl.length : Nat) : Int)) := by rw [htl]; decide
            rw [hl0 htl] at hC2
            simp only [e1, e2, hXl, hT, b0, b1, hRl, hRy, i1, w1, hz, hne, hne', encP, List.length_map, List.getElem?_map, Option.map_some, Int.natCast_nonneg, Int.toNat_natCast, am, simprocAttr, tys]
            exact ⟨by kernel_rfl, ⟨(rest, R), hC2, hh', by show rest.length ≤ 100; omega, by show R.length + tot rest ≤ _; omega⟩, [], [0, 3, 2], ⟨rfl, rfl, by simp, (fun i hi => absurd hi (Nat.not_lt_zero _)), ⟨.inr rfl, .inr rfl, trivial⟩, ⟨.inr ⟨by decide, rfl⟩, .inr ⟨by decide, rfl⟩, .inr ⟨by decide, rfl⟩, trivial⟩, rfl, by decide, rfl, (by first | rfl | (simp [scRow, tkC_scs]; done) | (simp [scRow, scB]; done))⟩, by show tot rest < tot h; omega⟩
          · have hT : ((0 : Int) < ((tl.length : Nat) : Int)) := by have := List.length_pos_iff.2 htl; omega
            have cP := cP htl
            have hC2 := hC2.perm (hl1 htl)
            have htp := htp htl
            simp only [e1, e2, hXl, hT, b0, b1, hRl, hRy, i1, w1, hz, hne, hne', encP, List.length_map, List.getElem?_map, Option.map_some, Int.natCast_nonneg, Int.toNat_natCast, am, simprocAttr, tys]
            refine ⟨by kernel_rfl, ?_⟩
            refine ACall.of (cP) [0, 3] [] rfl (by simp) (by simp) (by simp) (by repeat' (first | exact trivial | exact .inl rfl | exact .inr rfl | exact .inr ⟨rfl, rfl, rfl, by simp; done⟩ | exact .inr ⟨rfl, by simp; done⟩ | exact .inr ⟨rfl, rfl, by simp; done⟩ | apply And.intro)) (by repeat' (first | exact trivial | rfl | exact (tkC_ren.1 _ _).symm | (simp; done) | apply And.intro)) (by first | exact .inl rfl | (refine .inr ⟨trivial, ?_⟩; first | (intro row h; rcases List.mem_singleton.1 h with rfl; exact nvB _) | (intro row h; rcases List.mem_singleton.1 h with rfl; exact nvP2 _) | (intro row h; cases h; done) | (simp; done)) | (refine .inr ⟨by simp [nvP, nvP.nvPs, nvD, nilS, errno], ?_⟩; first | (intro row h; rcases List.mem_singleton.1 h with rfl; exact nvB _) | (intro row h; cases h; done) | (simp [nvRow, nvD, nvP]; done))) ?_
            simp only [am, simprocAttr, tys]
            exact ⟨⟨(push, R), hC2, hps, by show push.length ≤ 100; omega, by show R.length + tot push ≤ _; omega⟩, [], [0, 1029, 2], ⟨rfl, rfl, by simp, (fun i hi => absurd hi (Nat.not_lt_zero _)), ⟨.inr rfl, .inr rfl, trivial⟩, ⟨.inr ⟨by decide, rfl⟩, .inr ⟨by decide, rfl⟩, .inr ⟨by decide, rfl⟩, trivial⟩, rfl, by decide, rfl, (by first | rfl | (simp [scRow, tkC_scs]; done) | (simp [scRow, scB]; done))⟩, by show tot push < tot h; omega⟩
        · have hne : (y.1 != p.1) = true := bne_iff_ne.2 hyp
          have hne' : (y.1 == p.1) = false := beq_eq_false_iff_ne.2 hyp
          have hC2 := hmore (by rw [hS] at hC' ⊢; exact core_last hC' hyp (hle y (by rw [hS]; simp)))
          have eapp : R.map encP ++ [[DV.lit (.int .i64 p.1), DV.lit (.int .i64 p.2.1)]] = (R ++ [p]).map encP := by rw [List.map_append]; rfl
          have hRp : (R ++ [p]).length = R.length + 1 := by simp
          simp only [am, simprocAttr, tys]
          refine ACall.of (cN) [1] [] rfl (by simp) (by simp) (by simp) (by repeat' (first | exact trivial | exact .inl rfl | exact .inr rfl | exact .inr ⟨rfl, rfl, rfl, by simp; done⟩ | exact .inr ⟨rfl, by simp; done⟩ | exact .inr ⟨rfl, rfl, by simp; done⟩ | apply And.intro)) (by repeat' (first | exact trivial | rfl | exact (tkC_ren.1 _ _).symm | (simp; done) | apply And.intro)) (by first | exact .inl rfl | (refine .inr ⟨trivial, ?_⟩; first | (intro row h; rcases List.mem_singleton.1 h with rfl; exact nvB _) | (intro row h; rcases List.mem_singleton.1 h with rfl; exact nvP2 _) | (intro row h; cases h; done) | (simp; done)) | (refine .inr ⟨by simp [nvP, nvP.nvPs, nvD, nilS, errno], ?_⟩; first | (intro row h; rcases List.mem_singleton.1 h with rfl; exact nvB _) | (intro row h; cases h; done) | (simp [nvRow, nvD, nvP]; done))) ?_
          simp only [int, hlp, am, simprocAttr, tys]
          refine ACall.of (cO) [0, 1] [] rfl (by simp) (by simp) (by simp) (by repeat' (first | exact trivial | exact .inl rfl | exact .inr rfl | exact .inr ⟨rfl, rfl, rfl, by simp; done⟩ | exact .inr ⟨rfl, by simp; done⟩ | exact .inr ⟨rfl, rfl, by simp; done⟩ | apply And.intro)) (by repeat' (first | exact trivial | rfl | exact (tkC_ren.1 _ _).symm | (simp; done) | apply And.intro)) (by first | exact .inl rfl | (refine .inr ⟨trivial, ?_⟩; first | (intro row h; rcases List.mem_singleton.1 h with rfl; exact nvB _) | (intro row h; rcases List.mem_singleton.1 h with rfl; exact nvP2 _) | (intro row h; cases h; done) | (simp; done)) | (refine .inr ⟨by simp [nvP, nvP.nvPs, nvD, nilS, errno], ?_⟩; first | (intro row h; rcases List.mem_singleton.1 h with rfl; exact nvB _) | (intro row h; cases h; done) | (simp [nvRow, nvD, nvP]; done))) ?_
          by_cases htl : tl = []
          · have hT : ¬ ((0 : Int) < ((tl.length : Nat) : Int)) := by rw [htl]; decide
            rw [hl0 htl] at hC2
            simp only [e1, e2, hXl, hT, b0, b1, hRl, hRy, i1, w1, hz, hne, hne', eapp, encP, List.length_map, List.getElem?_map, Option.map_some, Int.natCast_nonneg, Int.toNat_natCast, am, simprocAttr, tys]
            exact ⟨by kernel_rfl, by omega, ⟨(rest, R ++ [p]), hC2, hh', by show rest.length ≤ 100; omega, by show (R ++ [p]).length + tot rest ≤ _; omega⟩, [], [0, 3, 1030], ⟨rfl, rfl, by simp, (fun i hi => absurd hi (Nat.not_lt_zero _)), ⟨.inr rfl, .inr rfl, trivial⟩, ⟨.inr ⟨by decide, rfl⟩, .inr ⟨by decide, rfl⟩, .inr ⟨by decide, rfl⟩, trivial⟩, rfl, by decide, rfl, (by first | rfl | (simp [scRow, tkC_scs]; done) | (simp [scRow, scB]; done))⟩, by show tot rest < tot h; omega⟩
          · have hT : ((0 : Int) < ((tl.length : Nat) : Int)) := by have := List.length_pos_iff.2 htl; omega
            have cP := cP htl
            have hC2 := hC2.perm (hl1 htl)
            have htp := htp htl
            simp only [e1, e2, hXl, hT, b0, b1, hRl, hRy, i1, w1, hz, hne, hne', eapp, encP, List.length_map, List.getElem?_map, Option.map_some, Int.natCast_nonneg, Int.toNat_natCast, am, simprocAttr, tys]
            refine ⟨by kernel_rfl, by omega, ?_⟩
            refine ACall.of (cP) [0, 3] [] rfl (by simp) (by simp) (by simp) (by repeat' (first | exact trivial | exact .inl rfl | exact .inr rfl | exact .inr ⟨rfl, rfl, rfl, by simp; done⟩ | exact .inr ⟨rfl, by simp; done⟩ | exact .inr ⟨rfl, rfl, by simp; done⟩ | apply And.intro)) (by repeat' (first | exact trivial | rfl | exact (tkC_ren.1 _ _).symm | (simp; done) | apply And.intro)) (by first | exact .inl rfl | (refine .inr ⟨trivial, ?_⟩; first | (intro row h; rcases List.mem_singleton.1 h with rfl; exact nvB _) | (intro row h; rcases List.mem_singleton.1 h with rfl; exact nvP2 _) | (intro row h; cases h; done) | (simp; done)) | (refine .inr ⟨by simp [nvP, nvP.nvPs, nvD, nilS, errno], ?_⟩; first | (intro row h; rcases List.mem_singleton.1 h with rfl; exact nvB _) | (intro row h; cases h; done) | (simp [nvRow, nvD, nvP]; done))) ?_
            simp only [am, simprocAttr, tys]
            exact ⟨⟨(push, R ++ [p]), hC2, hps, by show push.length ≤ 100; omega, by show (R ++ [p]).length + tot push ≤ _; omega⟩, [], [0, 1031, 1030], ⟨rfl, rfl, by simp, (fun i hi => absurd hi (Nat.not_lt_zero _)), ⟨.inr rfl, .inr rfl, trivial⟩, ⟨.inr ⟨by decide, rfl⟩, .inr ⟨by decide, rfl⟩, .inr ⟨by decide, rfl⟩, trivial⟩, rfl, by decide, rfl, (by first | rfl | (simp [scRow, tkC_scs]; done) | (simp [scRow, scB]; done))⟩, by show tot push < tot h; omega⟩
end Go.Proofs.Ytldckdbdgbpmpaa
