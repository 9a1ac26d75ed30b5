/- Proved here: what functions of the program compute, and plain laws. No condition. -/
import Derived.Test.YtldckdbdgbpmpaaStab
import Derived.Test.YtldckdbdgbpmpaaOfLaw
set_option linter.unusedSimpArgs false
set_option linter.unusedVariables false
namespace Go.Proofs.Ytldckdbdgbpmpaa
open Go Go.AM

theorem cloneP (l : List PtT) (h0 : l ≠ []) (hl : l.length ≤ 10000000000) : AFun Try.prog 25 [.d (.sl 2 (l.map encP))] [] (.own 0) [.own 2 (l.map encP)] := by
  have hlen : 0 < l.length := List.length_pos_iff.2 h0
  refine AFun.of_walk hP Try.func25 rfl rfl rfl (by simp) rfl ?_
  simp only [Try.f25, hlen, List.length_map, FinR, evRes, evRVs, evRV, am, simprocAttr, tys]
  exact ⟨by omega, ⟨_, [], [1], rfl, ⟨rfl, rfl, by simp, (fun i hi => absurd hi (Nat.not_lt_zero _)), trivial, ⟨.inr ⟨by decide, rfl⟩, trivial⟩, rfl, by decide, rfl, (by first | rfl | (simp [scRow, tkC_scs]; done) | (simp [scRow, scB]; done))⟩, rfl, rfl⟩⟩
theorem cloneNil (cap : Nat) : AFun Try.prog 25 [.d (.lit (.slice none 0 cap))] [] nilS [] := by
  refine AFun.of_walk hP Try.func25 rfl rfl rfl (by simp) rfl ?_
  simp only [Try.f25, nilS, FinR, evRes, evRVs, evRV, am, simprocAttr, tys]
  exact ⟨_, [], [], rfl, Ent.plain rfl rfl rfl trivial rfl, rfl, rfl⟩
theorem cloneEmp (a : Addr) (cap : Nat) : AFun Try.prog 25 [.d (.lit (.slice (some a) 0 cap))] [] (.own 0) [.own 2 []] := by
  refine AFun.of_walk hP Try.func25 rfl rfl rfl (by simp) rfl ?_
  simp only [Try.f25, FinR, evRes, evRVs, evRV, am, simprocAttr, tys]
  exact ⟨_, [], [1], rfl, ⟨rfl, rfl, by simp, (fun i hi => absurd hi (Nat.not_lt_zero _)), trivial, ⟨.inr ⟨by decide, rfl⟩, trivial⟩, rfl, by decide, rfl, (by first | rfl | (simp [scRow, tkC_scs]; done) | (simp [scRow, scB]; done))⟩, rfl, rfl⟩

set_option maxRecDepth 8000 in
set_option maxHeartbeats 2000000 in
theorem mergeOf1 (l : List PtT) (h0 : l ≠ []) (hl : l.length ≤ 10000000000) : AFun Try.prog 16 [.d (.sl 2 (l.map encP))] [] (.d (.sl 2 ((ofP l).map encP))) [] := by
  refine AFun.of_walk hP Try.func16 rfl rfl rfl (by simp) rfl ?_
  have cs := sortStableP l hl
  simp only [ofC] at cs
  simp only [Try.f16, am, simprocAttr, tys]
  refine ACall.of (cloneP l h0 hl) [] [] rfl (by simp) (by simp) (by simp) (by repeat' (first | exact trivial | exact .inl rfl | exact .inr rfl | exact .inr ⟨rfl, rfl, rfl, by simp; done⟩ | exact .inr ⟨rfl, by simp; done⟩ | exact .inr ⟨rfl, rfl, by simp; done⟩ | apply And.intro)) (by repeat' (first | exact trivial | rfl | exact (tkC_ren.1 _ _).symm | (simp; done) | apply And.intro)) (by first | exact .inl rfl | (refine .inr ⟨trivial, ?_⟩; first | (intro row h; rcases List.mem_singleton.1 h with rfl; exact nvB _) | (intro row h; rcases List.mem_singleton.1 h with rfl; exact nvP2 _) | (intro row h; cases h; done) | (simp; done)) | (refine .inr ⟨by simp [nvP, nvP.nvPs, nvD, nilS, errno], ?_⟩; first | (intro row h; rcases List.mem_singleton.1 h with rfl; exact nvB _) | (intro row h; cases h; done) | (simp [nvRow, nvD, nvP]; done))) ?_
  simp only [am, simprocAttr, tys]
  refine ACall.of (cs) [0] [] rfl (by simp) (by simp) (by simp) (by repeat' (first | exact trivial | exact .inl rfl | exact .inr rfl | exact .inr ⟨rfl, rfl, rfl, by simp; done⟩ | exact .inr ⟨rfl, by simp; done⟩ | exact .inr ⟨rfl, rfl, by simp; done⟩ | apply And.intro)) (by repeat' (first | exact trivial | rfl | exact (tkC_ren.1 _ _).symm | (simp; done) | apply And.intro)) (by first | exact .inl rfl | (refine .inr ⟨trivial, ?_⟩; first | (intro row h; rcases List.mem_singleton.1 h with rfl; exact nvB _) | (intro row h; rcases List.mem_singleton.1 h with rfl; exact nvP2 _) | (intro row h; cases h; done) | (simp; done)) | (refine .inr ⟨by simp [nvP, nvP.nvPs, nvD, nilS, errno], ?_⟩; first | (intro row h; rcases List.mem_singleton.1 h with rfl; exact nvB _) | (intro row h; cases h; done) | (simp [nvRow, nvD, nvP]; done))) ?_
  simp only [List.length_map, sortP_len, am, simprocAttr, tys]
  unfold ofP
  have hcl := sortP_len l
  generalize sortP l = C at *
  obtain ⟨n, en⟩ : ∃ n, l.length = n := ⟨_, rfl⟩
  rw [en] at hl hcl ⊢
  refine ALoopW.ghost 4 2 rfl ?_
  simp only [am, simprocAttr, tys]
  refine ALoopW.intro 40 0 (ι := { z : Nat × List PtT // z.1 ≤ n ∧ z.2 ++ lasts (C.drop z.1) = lasts C ∧ z.2.length ≤ z.1 }) (fun z => [(3, .own 0), (4, .own 1), (11, .own 0), (12, int n), (13, int z.1.1)]) (fun z => [.own 2 (C.map encP), .own 2 (z.1.2.map encP)]) (fun z => n - z.1.1)
    ⟨(0, []), by omega, by simp, by simp⟩ [] [0, 1] ?_ (fun ⟨⟨i, R⟩, hi, hR, hRl⟩ => ?_)
  · exact ⟨rfl, rfl, by simp, (fun i hi => absurd hi (Nat.not_lt_zero _)), ⟨.inr rfl, .inr rfl, .inr rfl, .inr rfl, .inr rfl, trivial⟩, ⟨.inr ⟨by decide, rfl⟩, .inr ⟨by decide, rfl⟩, trivial⟩, rfl, by decide, rfl, (by first | rfl | (simp [scRow, tkC_scs]; done) | (simp [scRow, scB]; done))⟩
  simp only at hi hR hRl ⊢
  rcases Nat.lt_or_ge i n with hlt | hge
  case' inr =>
    have hI : ¬ ((i : Int) < (n : Int)) := by omega
    have e : R = lasts C := by
      rw [List.drop_of_length_le (by omega)] at hR
      simpa [lasts] using hR
    rw [e]
    simp only [int, hI, FinR, evRes, evRVs, evRV, am, simprocAttr, tys]
    exact ⟨_, [0, 1], [], rfl, ⟨rfl, rfl, by simp, (fun i hi => absurd hi (Nat.not_lt_zero _)), trivial, trivial, rfl, by decide, rfl, (by first | rfl | (simp [scRow, tkC_scs]; done) | (simp [scRow, scB]; done))⟩, rfl, rfl⟩
  have hI : ((i : Int) < (n : Int)) := by omega
  have hx : C[i]? = some C[i] := List.getElem?_eq_getElem (by omega)
  have hdr : C.drop i = C[i] :: C.drop (i + 1) := List.drop_eq_getElem_cons (by omega)
  have w1 : IntKind.i64.wrap ((i : Int) + 1) = ((i + 1 : Nat) : Int) := by rw [IntWalk.i64_in _ (by omega)]; simp
  rw [hdr] at hR
  by_cases hlast : i + 1 = n
  · have hE : (((i + 1 : Nat) : Int) == ((n : Nat) : Int)) = true := by rw [beq_iff_eq]; omega
    have hd2 : C.drop (i + 1) = [] := List.drop_of_length_le (by omega)
    rw [hd2, lasts_last] at hR
    generalize C[i] = x at *
    have eapp : R.map encP ++ [[DV.lit (.int .i64 x.1), DV.lit (.int .i64 x.2.1)]] = (R ++ [x]).map encP := by rw [List.map_append]; rfl
    simp only [int, hI, hx, hcl, w1, hE, encP, List.length_map, Int.natCast_nonneg, Int.toNat_natCast, am, simprocAttr, tys]
    refine ⟨by kernel_rfl, ?_⟩
    simp only [w1, eapp, List.length_map, am, simprocAttr, tys]
    refine ⟨by omega, ⟨(i + 1, R ++ [x]), by omega, by rw [hd2]; simpa [lasts] using hR, by simp; omega⟩, [], [0, 1028], ⟨rfl, rfl, by simp, (fun i hi => absurd hi (Nat.not_lt_zero _)), ⟨.inr rfl, .inr rfl, .inr rfl, .inr rfl, .inr rfl, trivial⟩, ⟨.inr ⟨by decide, rfl⟩, .inr ⟨by decide, rfl⟩, trivial⟩, rfl, by decide, rfl, (by first | rfl | (simp [scRow, tkC_scs]; done) | (simp [scRow, scB]; done))⟩, by show n - (i + 1) < n - i; omega⟩
  · have hE : (((i + 1 : Nat) : Int) == ((n : Nat) : Int)) = false := by rw [beq_eq_false_iff_ne]; omega
    have hy : C[i + 1]? = some C[i + 1] := List.getElem?_eq_getElem (by omega)
    have hd2 : C.drop (i + 1) = C[i + 1] :: C.drop (i + 2) := List.drop_eq_getElem_cons (by omega)
    have i1 : ((i + 1 : Nat) : Int) < ((n : Nat) : Int) := by omega
    rw [hd2] at hR
    generalize C[i] = x at *
    generalize C[i + 1] = y at *
    have eapp : R.map encP ++ [[DV.lit (.int .i64 x.1), DV.lit (.int .i64 x.2.1)]] = (R ++ [x]).map encP := by rw [List.map_append]; rfl
    by_cases hxy : x.1 = y.1
    · rw [lasts_same hxy, ← hd2] at hR
      have hne : (y.1 != x.1) = false := by rw [hxy]; exact bne_self_eq_false' _
      have hne' : (y.1 == x.1) = true := by rw [hxy]; exact beq_self_eq_true _
      simp only [int, hI, hx, hy, hcl, w1, hE, i1, hne, hne', encP, List.length_map, Int.natCast_nonneg, Int.toNat_natCast, am, simprocAttr, tys]
      refine ⟨by kernel_rfl, ?_⟩
      exact ⟨⟨(i + 1, R), by omega, hR, by show R.length ≤ i + 1; omega⟩, [], [0, 1], ⟨rfl, rfl, by simp, (fun i hi => absurd hi (Nat.not_lt_zero _)), ⟨.inr rfl, .inr rfl, .inr rfl, .inr rfl, .inr rfl, trivial⟩, ⟨.inr ⟨by decide, rfl⟩, .inr ⟨by decide, rfl⟩, trivial⟩, rfl, by decide, rfl, (by first | rfl | (simp [scRow, tkC_scs]; done) | (simp [scRow, scB]; done))⟩, by show n - (i + 1) < n - i; omega⟩
    · rw [lasts_ne hxy, ← hd2] at hR
      have hne : (y.1 != x.1) = true := bne_iff_ne.2 (fun h => hxy h.symm)
      have hne' : (y.1 == x.1) = false := beq_eq_false_iff_ne.2 (fun h => hxy h.symm)
      simp only [int, hI, hx, hy, hcl, w1, hE, i1, hne, hne', encP, List.length_map, Int.natCast_nonneg, Int.toNat_natCast, am, simprocAttr, tys]
      refine ⟨by kernel_rfl, ?_⟩
      simp only [w1, eapp, List.length_map, am, simprocAttr, tys]
      refine ⟨by omega, ⟨(i + 1, R ++ [x]), by omega, by rw [List.append_assoc]; exact hR, by simp; omega⟩, [], [0, 1028], ⟨rfl, rfl, by simp, (fun i hi => absurd hi (Nat.not_lt_zero _)), ⟨.inr rfl, .inr rfl, .inr rfl, .inr rfl, .inr rfl, trivial⟩, ⟨.inr ⟨by decide, rfl⟩, .inr ⟨by decide, rfl⟩, trivial⟩, rfl, by decide, rfl, (by first | rfl | (simp [scRow, tkC_scs]; done) | (simp [scRow, scB]; done))⟩, by show n - (i + 1) < n - i; omega⟩

theorem insNilP : AFun Try.prog 35 [nilS, int 0, int 0, ofC] [] (.tup []) [] := by
  refine AFun.of_walk hP Try.func35 rfl rfl rfl (by simp) rfl ?_
  have w1 : IntKind.i64.wrap ((0 : Int) + 1) = 1 := by decide
  simp only [Try.f35, int, nilS, ofC, w1, am, simprocAttr, tys]
  refine ALoopW.intro 53 0 (ι := Unit) (fun _ => [(2, int 0), (8, int 1)]) (fun _ => []) (fun _ => 0) () [] [] ?_ (fun _ => ?_)
  · exact Ent.plain rfl rfl rfl (⟨.inr rfl, .inr rfl, trivial⟩) rfl
  simp only [int, FinR, evRes, evRVs, evRV, am, simprocAttr, tys]
  exact ⟨_, [], [], rfl, Ent.plain rfl rfl rfl trivial rfl, rfl, rfl⟩
theorem stableNil : AFun Try.prog 33 [nilS, int 0, ofC] [] (.tup []) [] := by
  refine AFun.of_walk hP Try.func33 rfl rfl rfl (by simp) rfl ?_
  simp only [Try.f33, int, nilS, ofC, am, simprocAttr, tys]
  refine ALoopW.intro 63 0 (ι := Unit) (fun _ => [(0, nilS), (1, int 0), (2, ofC), (6, int 20), (7, int 0), (8, int 20)]) (fun _ => []) (fun _ => 0) () [] [] ?_ (fun _ => ?_)
  · exact Ent.plain rfl rfl rfl (⟨.inr rfl, .inr rfl, .inr rfl, .inr rfl, .inr rfl, .inr rfl, trivial⟩) rfl
  simp only [int, nilS, ofC, am, simprocAttr, tys]
  refine ACall.of (insNilP) [] [] rfl (by simp) (by simp) (by simp) (by repeat' (first | exact trivial | exact .inl rfl | exact .inr rfl | exact .inr ⟨rfl, rfl, rfl, by simp; done⟩ | exact .inr ⟨rfl, by simp; done⟩ | exact .inr ⟨rfl, rfl, by simp; done⟩ | apply And.intro)) (by repeat' (first | exact trivial | rfl | exact (tkC_ren.1 _ _).symm | (simp; done) | apply And.intro)) (by first | exact .inl rfl | (refine .inr ⟨trivial, ?_⟩; first | (intro row h; rcases List.mem_singleton.1 h with rfl; exact nvB _) | (intro row h; rcases List.mem_singleton.1 h with rfl; exact nvP2 _) | (intro row h; cases h; done) | (simp; done)) | (refine .inr ⟨by simp [nvP, nvP.nvPs, nvD, nilS, errno], ?_⟩; first | (intro row h; rcases List.mem_singleton.1 h with rfl; exact nvB _) | (intro row h; cases h; done) | (simp [nvRow, nvD, nvP]; done))) ?_
  simp only [am, simprocAttr, tys]
  refine ALoopW.intro 63 0 (ι := Unit) (fun _ => [(1, int 0), (6, int 20)]) (fun _ => []) (fun _ => 0) () [] [] ?_ (fun _ => ?_)
  · exact Ent.plain rfl rfl rfl (⟨.inr rfl, .inr rfl, trivial⟩) rfl
  simp only [int, FinR, evRes, evRVs, evRV, am, simprocAttr, tys]
  exact ⟨_, [], [], rfl, Ent.plain rfl rfl rfl trivial rfl, rfl, rfl⟩
theorem sortStableNil : AFun Try.prog 26 [nilS, ofC] [] (.tup []) [] := by
  refine AFun.of_walk hP Try.func26 rfl rfl rfl (by simp) rfl ?_
  simp only [Try.f26, ofC, nilS, am, simprocAttr, tys]
  refine ACall.of (stableNil) [] [] rfl (by simp) (by simp) (by simp) (by repeat' (first | exact trivial | exact .inl rfl | exact .inr rfl | exact .inr ⟨rfl, rfl, rfl, by simp; done⟩ | exact .inr ⟨rfl, by simp; done⟩ | exact .inr ⟨rfl, rfl, by simp; done⟩ | apply And.intro)) (by repeat' (first | exact trivial | rfl | exact (tkC_ren.1 _ _).symm | (simp; done) | apply And.intro)) (by first | exact .inl rfl | (refine .inr ⟨trivial, ?_⟩; first | (intro row h; rcases List.mem_singleton.1 h with rfl; exact nvB _) | (intro row h; rcases List.mem_singleton.1 h with rfl; exact nvP2 _) | (intro row h; cases h; done) | (simp; done)) | (refine .inr ⟨by simp [nvP, nvP.nvPs, nvD, nilS, errno], ?_⟩; first | (intro row h; rcases List.mem_singleton.1 h with rfl; exact nvB _) | (intro row h; cases h; done) | (simp [nvRow, nvD, nvP]; done))) ?_
  simp only [FinR, evRes, evRVs, evRV, am, simprocAttr, tys]
  exact ⟨_, [], [], rfl, Ent.plain rfl rfl rfl trivial rfl, rfl, rfl⟩
theorem mergeOfNil (cap : Nat) : AFun Try.prog 16 [.d (.lit (.slice none 0 cap))] [] nilS [] := by
  refine AFun.of_walk hP Try.func16 rfl rfl rfl (by simp) rfl ?_
  simp only [Try.f16, nilS, am, simprocAttr, tys]
  refine ACall.of (cloneNil cap) [] [] rfl (by simp) (by simp) (by simp) (by repeat' (first | exact trivial | exact .inl rfl | exact .inr rfl | exact .inr ⟨rfl, rfl, rfl, by simp; done⟩ | exact .inr ⟨rfl, by simp; done⟩ | exact .inr ⟨rfl, rfl, by simp; done⟩ | apply And.intro)) (by repeat' (first | exact trivial | rfl | exact (tkC_ren.1 _ _).symm | (simp; done) | apply And.intro)) (by first | exact .inl rfl | (refine .inr ⟨trivial, ?_⟩; first | (intro row h; rcases List.mem_singleton.1 h with rfl; exact nvB _) | (intro row h; rcases List.mem_singleton.1 h with rfl; exact nvP2 _) | (intro row h; cases h; done) | (simp; done)) | (refine .inr ⟨by simp [nvP, nvP.nvPs, nvD, nilS, errno], ?_⟩; first | (intro row h; rcases List.mem_singleton.1 h with rfl; exact nvB _) | (intro row h; cases h; done) | (simp [nvRow, nvD, nvP]; done))) ?_
  simp only [nilS, am, simprocAttr, tys]
  refine ACall.of (sortStableNil) [] [] rfl (by simp) (by simp) (by simp) (by repeat' (first | exact trivial | exact .inl rfl | exact .inr rfl | exact .inr ⟨rfl, rfl, rfl, by simp; done⟩ | exact .inr ⟨rfl, by simp; done⟩ | exact .inr ⟨rfl, rfl, by simp; done⟩ | apply And.intro)) (by repeat' (first | exact trivial | rfl | exact (tkC_ren.1 _ _).symm | (simp; done) | apply And.intro)) (by first | exact .inl rfl | (refine .inr ⟨trivial, ?_⟩; first | (intro row h; rcases List.mem_singleton.1 h with rfl; exact nvB _) | (intro row h; rcases List.mem_singleton.1 h with rfl; exact nvP2 _) | (intro row h; cases h; done) | (simp; done)) | (refine .inr ⟨by simp [nvP, nvP.nvPs, nvD, nilS, errno], ?_⟩; first | (intro row h; rcases List.mem_singleton.1 h with rfl; exact nvB _) | (intro row h; cases h; done) | (simp [nvRow, nvD, nvP]; done))) ?_
  simp only [am, simprocAttr, tys]
  refine ALoopW.intro 40 0 (ι := Unit) (fun _ => [(4, nilS), (12, int 0), (13, int 0)]) (fun _ => []) (fun _ => 0) () [] [] ?_ (fun _ => ?_)
  · exact Ent.plain rfl rfl rfl (⟨.inr rfl, .inr rfl, .inr rfl, trivial⟩) rfl
  simp only [nilS, int, FinR, evRes, evRVs, evRV, am, simprocAttr, tys]
  exact ⟨_, [], [], rfl, Ent.plain rfl rfl rfl trivial rfl, rfl, rfl⟩
theorem mergeOfEmp (a : Addr) (cap : Nat) : AFun Try.prog 16 [.d (.lit (.slice (some a) 0 cap))] [] nilS [] := by
  refine AFun.of_walk hP Try.func16 rfl rfl rfl (by simp) rfl ?_
  have cs := sortStableP [] (by simp)
  simp only [ofC, List.map_nil] at cs
  simp only [Try.f16, am, simprocAttr, tys]
  refine ACall.of (cloneEmp a cap) [] [] rfl (by simp) (by simp) (by simp) (by repeat' (first | exact trivial | exact .inl rfl | exact .inr rfl | exact .inr ⟨rfl, rfl, rfl, by simp; done⟩ | exact .inr ⟨rfl, by simp; done⟩ | exact .inr ⟨rfl, rfl, by simp; done⟩ | apply And.intro)) (by repeat' (first | exact trivial | rfl | exact (tkC_ren.1 _ _).symm | (simp; done) | apply And.intro)) (by first | exact .inl rfl | (refine .inr ⟨trivial, ?_⟩; first | (intro row h; rcases List.mem_singleton.1 h with rfl; exact nvB _) | (intro row h; rcases List.mem_singleton.1 h with rfl; exact nvP2 _) | (intro row h; cases h; done) | (simp; done)) | (refine .inr ⟨by simp [nvP, nvP.nvPs, nvD, nilS, errno], ?_⟩; first | (intro row h; rcases List.mem_singleton.1 h with rfl; exact nvB _) | (intro row h; cases h; done) | (simp [nvRow, nvD, nvP]; done))) ?_
  simp only [am, simprocAttr, tys]
  refine ACall.of (cs) [0] [] rfl (by simp) (by simp) (by simp) (by repeat' (first | exact trivial | exact .inl rfl | exact .inr rfl | exact .inr ⟨rfl, rfl, rfl, by simp; done⟩ | exact .inr ⟨rfl, by simp; done⟩ | exact .inr ⟨rfl, rfl, by simp; done⟩ | apply And.intro)) (by repeat' (first | exact trivial | rfl | exact (tkC_ren.1 _ _).symm | (simp; done) | apply And.intro)) (by first | exact .inl rfl | (refine .inr ⟨trivial, ?_⟩; first | (intro row h; rcases List.mem_singleton.1 h with rfl; exact nvB _) | (intro row h; rcases List.mem_singleton.1 h with rfl; exact nvP2 _) | (intro row h; cases h; done) | (simp; done)) | (refine .inr ⟨by simp [nvP, nvP.nvPs, nvD, nilS, errno], ?_⟩; first | (intro row h; rcases List.mem_singleton.1 h with rfl; exact nvB _) | (intro row h; cases h; done) | (simp [nvRow, nvD, nvP]; done))) ?_
  simp only [am, simprocAttr, tys]
  refine ALoopW.intro 40 0 (ι := Unit) (fun _ => [(4, nilS), (12, int 0), (13, int 0)]) (fun _ => []) (fun _ => 0) () [] [] ?_ (fun _ => ?_)
  · exact Ent.plain rfl rfl rfl (⟨.inr rfl, .inr rfl, .inr rfl, trivial⟩) rfl
  simp only [nilS, int, FinR, evRes, evRVs, evRV, am, simprocAttr, tys]
  exact ⟨_, [], [], rfl, Ent.plain rfl rfl rfl trivial rfl, rfl, rfl⟩
theorem mergeOf (l : List PtT) (hl : l.length ≤ 10000000000) : AFun Try.prog 16 [.d (.sl 2 (l.map encP))] [] (.d (.sl 2 ((ofP l).map encP))) [] := by
  by_cases h : l = []
  · subst h
    refine AFun.nil0 2 fun a cap => ?_
    refine AFun.weaken (r := nilS) ?_ trivial (fun rows β w X v h => nil_sl 2 rows β w X v h)
    rcases a with _ | a
    · exact mergeOfNil cap
    · exact mergeOfEmp a cap
  · exact mergeOf1 l h hl
end Go.Proofs.Ytldckdbdgbpmpaa
