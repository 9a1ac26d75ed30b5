/- Proved here: what functions of the program compute, and plain laws. No condition. -/
import Derived.Test.YtldckdbdgbpmpaaLaws10a
import Derived.Test.YtldckdbdgbpmpaaAllO
set_option linter.unusedSimpArgs false
set_option linter.unusedVariables false
namespace Go.Proofs.Ytldckdbdgbpmpaa
open Go Go.AM

/-! ## points dealt on three lists -/
def bk (d i : Nat) : Nat := (i * d + i / 2) % 3
def dl (d : Nat) (C : List PtT) (b : Nat) : Nat → List PtT
  | 0 => []
  | i + 1 => dl d C b i ++ (if bk d i = b then (C[i]?).toList else [])
theorem dl_perm (d : Nat) (C : List PtT) : ∀ i, i ≤ C.length → (dl d C 0 i ++ (dl d C 1 i ++ dl d C 2 i)).Perm (C.take i)
  | 0, _ => by simp [dl]
  | i + 1, h => by
    have ih := dl_perm d C i (by omega)
    have hlt : i < C.length := by omega
    have htk : C.take (i + 1) = C.take i ++ [C[i]] := List.take_succ_eq_append_getElem hlt
    have hg : C[i]? = some C[i] := List.getElem?_eq_getElem hlt
    have hb : bk d i < 3 := Nat.mod_lt _ (by decide)
    rw [htk]
    refine List.Perm.trans ?_ (ih.append_right _)
    simp only [dl, hg, Option.toList_some]
    generalize bk d i = b at *
    generalize C[i] = x at *
    refine List.perm_iff_count.2 fun a => ?_
    have cc : ∀ l m : List PtT, List.count a (l ++ m) = List.count a l + List.count a m := fun l m => List.count_append
    match b, hb with
    | 0, _ => rw [if_pos rfl, if_neg (by decide), if_neg (by decide)]; simp only [cc, List.append_nil]; omega
    | 1, _ => rw [if_neg (by decide), if_pos rfl, if_neg (by decide)]; simp only [cc, List.append_nil]; omega
    | 2, _ => rw [if_neg (by decide), if_neg (by decide), if_pos rfl]; simp only [cc, List.append_nil]; omega
theorem dl_len (d : Nat) (C : List PtT) (b i : Nat) : (dl d C b i).length ≤ i := by
  induction i with
  | zero => simp [dl]
  | succ i ih =>
    unfold dl
    rw [List.length_append]
    split
    · cases C[i]? <;> simp <;> omega
    · simp; omega
theorem ofP_perm {l C : List PtT} (hp : l.Perm C) (hC : Rise C) : ofP l = C := by
  rw [← ofP_idem C hC]
  refine ofP_congr fun k => ?_
  have h1 : (fk k l).Perm (fk k C) := hp.filter _
  have h2 : ∀ C : List PtT, Rise C → (fk k C).length ≤ 1 := fun C => by
    induction C with
    | nil => intro _; simp [fk]
    | cons x C ih =>
      intro h
      have h3 := List.pairwise_cons.1 h
      rw [fk_cons]
      by_cases hx : x.1 = k
      · have e := fk_nil (k := k) (l := C) fun z hz => by have := h3.1 z hz; omega
        rw [e, List.append_nil]; exact List.length_filter_le _ [x]
      · have e : fk k [x] = [] := by simp [fk, hx]
        rw [e]; exact ih h3.2
  have h4 := h2 C hC
  unfold lastOf
  rcases hf : fk k C with _ | ⟨y, _ | ⟨z, r⟩⟩
  · rw [hf] at h1; rw [List.Perm.eq_nil h1]
  · rw [hf] at h1; rw [List.perm_singleton.1 h1]
  · rw [hf] at h4; simp at h4

def rowsD (d : Nat) (C : List PtT) (i : Nat) : List Row :=
  if i = C.length then [.box [.d (.sl 2 ((dl d C 0 i).map encP)), .d (.sl 2 ((dl d C 1 i).map encP)), .d (.sl 2 ((dl d C 2 i).map encP))]]
  else [.box [.own 1, .own 2, .own 3], .own 2 ((dl d C 0 i).map encP), .own 2 ((dl d C 1 i).map encP), .own 2 ((dl d C 2 i).map encP)]

set_option maxRecDepth 8000 in
theorem lawOrder (a : List PtT) (deal : UInt8) (ha : a.length ≤ 9223372036854775807) :
    AFun Try.prog 6 [.d (.sl 2 (a.map encP)), .d (.lit (.int .u8 deal.toNat))] [] (bool true) [] := by
  refine AFun.of_walk hP Try.func6 rfl rfl rfl (by simp) rfl ?_
  have hm := min_n a.length 400
  simp only [Int.cast_ofNat_Int] at hm
  have la : (a.take 400).length ≤ 400 := by rw [List.length_take]; omega
  have cO := mergeOf (a.take 400) (by omega)
  have ho := ofP_len (a.take 400)
  have hri := ofP_rise (a.take 400)
  have hmin : ((min a.length 400 : Nat) : Int) ≤ ((a.length : Nat) : Int) := by omega
  simp only [Try.f6, am, simprocAttr, tys]
  refine ACall.of (shown10) [] [] rfl (by simp) (by simp) (by simp) (by repeat' (first | exact trivial | exact .inl rfl | exact .inr rfl | exact .inr ⟨rfl, rfl, rfl, by simp; done⟩ | exact .inr ⟨rfl, by simp; done⟩ | exact .inr ⟨rfl, rfl, by simp; done⟩ | apply And.intro)) (by repeat' (first | exact trivial | rfl | exact (tkC_ren.1 _ _).symm | (simp; done) | apply And.intro)) (by first | exact .inl rfl | (refine .inr ⟨trivial, ?_⟩; first | (intro row h; rcases List.mem_singleton.1 h with rfl; exact nvB _) | (intro row h; rcases List.mem_singleton.1 h with rfl; exact nvP2 _) | (intro row h; cases h; done) | (simp; done)) | (refine .inr ⟨by simp [nvP, nvP.nvPs, nvD, nilS, errno], ?_⟩; first | (intro row h; rcases List.mem_singleton.1 h with rfl; exact nvB _) | (intro row h; cases h; done) | (simp [nvRow, nvD, nvP]; done))) ?_
  simp only [bool, hm, hmin, take_minP, List.length_map, Int.natCast_nonneg, Int.toNat_natCast, ← List.map_take, List.drop_zero, am, simprocAttr, tys]
  refine ACall.of (cO) [] [] rfl (by simp) (by simp) (by simp) (by repeat' (first | exact trivial | exact .inl rfl | exact .inr rfl | exact .inr ⟨rfl, rfl, rfl, by simp; done⟩ | exact .inr ⟨rfl, by simp; done⟩ | exact .inr ⟨rfl, rfl, by simp; done⟩ | apply And.intro)) (by repeat' (first | exact trivial | rfl | exact (tkC_ren.1 _ _).symm | (simp; done) | apply And.intro)) (by first | exact .inl rfl | (refine .inr ⟨trivial, ?_⟩; first | (intro row h; rcases List.mem_singleton.1 h with rfl; exact nvB _) | (intro row h; rcases List.mem_singleton.1 h with rfl; exact nvP2 _) | (intro row h; cases h; done) | (simp; done)) | (refine .inr ⟨by simp [nvP, nvP.nvPs, nvD, nilS, errno], ?_⟩; first | (intro row h; rcases List.mem_singleton.1 h with rfl; exact nvB _) | (intro row h; cases h; done) | (simp [nvRow, nvD, nvP]; done))) ?_
  generalize ofP (a.take 400) = C at *
  simp only [List.length_map, am, simprocAttr, tys]
  refine ALoopW.ghostC 0 0 2 [nilS, nilS, nilS] rfl rfl ?_
  simp only [am, simprocAttr, tys]
  refine ALoopW.ghostC 0 1 2 [.own 1, nilS, nilS] rfl rfl ?_
  simp only [am, simprocAttr, tys]
  refine ALoopW.ghostC 0 2 2 [.own 1, .own 2, nilS] rfl rfl ?_
  simp only [am, simprocAttr, tys]
  have hD : deal.toNat < 256 := deal.toNat_lt
  generalize deal.toNat = D at *
  obtain ⟨d, hd⟩ : ∃ d : Nat, D % 7 = d := ⟨_, rfl⟩
  have w1 : IntKind.i64.wrap (((D : Nat) : Int).tmod 7) = ((d : Nat) : Int) := by
    have e : ((D : Nat) : Int).tmod 7 = ((d : Nat) : Int) := by rw [Int.tmod_eq_emod_of_nonneg (by omega)]; omega
    rw [e, IntWalk.i64_in _ (by omega)]
  refine ALoopW.intro 68 0 (ι := { i : Nat // i ≤ C.length }) (fun i => [(1, .d (.lit (.int .u8 D))), (5, bool true), (6, .d (.sl 2 (C.map encP))), (7, .own 0), (19, .d (.sl 2 (C.map encP))), (20, int C.length), (21, int i.1)]) (fun i => rowsD d C i.1) (fun i => C.length - i.1)
    ⟨0, Nat.zero_le _⟩ (if 0 = C.length then [1, 2, 3] else []) (if 0 = C.length then [0] else [0, 1, 2, 3]) ?_ (fun ⟨i, hi⟩ => ?_)
  · unfold rowsD
    by_cases h0 : 0 = C.length
    · simp only [if_pos h0]
      exact ⟨rfl, rfl, by simp, (fun i hi => absurd hi (Nat.not_lt_zero _)), ⟨.inr rfl, .inr rfl, .inr rfl, .inr rfl, .inr rfl, .inr rfl, .inr rfl, trivial⟩, ⟨.inr ⟨by decide, rfl⟩, trivial⟩, rfl, by decide, rfl, (by first | rfl | (simp [scRow, tkC_scs]; done) | (simp [scRow, scB]; done))⟩
    · simp only [if_neg h0]
      exact ⟨rfl, rfl, by simp, (fun i hi => absurd hi (Nat.not_lt_zero _)), ⟨.inr rfl, .inr rfl, .inr rfl, .inr rfl, .inr rfl, .inr rfl, .inr rfl, trivial⟩, ⟨.inr ⟨by decide, rfl⟩, .inr ⟨by decide, rfl⟩, .inr ⟨by decide, rfl⟩, .inr ⟨by decide, rfl⟩, trivial⟩, rfl, by decide, rfl, (by first | rfl | (simp [scRow, tkC_scs]; done) | (simp [scRow, scB]; done))⟩
  simp only at hi ⊢
  rcases Nat.lt_or_ge i C.length with hlt | hge
  · have hI : ((i : Int) < ((C.length : Nat) : Int)) := by omega
    have hb : C[i]? = some C[i] := List.getElem?_eq_getElem hlt
    have wi : IntKind.i64.wrap ((i : Int) + 1) = ((i + 1 : Nat) : Int) := by rw [IntWalk.i64_in _ (by omega)]; simp
    generalize C[i] = x at *
    have hd7 : d ≤ 6 := by omega
    have hm6 : i * d ≤ i * 6 := Nat.mul_le_mul_left i hd7
    have w2 : IntKind.i64.wrap ((i : Int) * ((d : Nat) : Int)) = ((i * d : Nat) : Int) := by rw [← Int.natCast_mul, IntWalk.i64_in _ (by omega)]
    have w3 : IntKind.i64.wrap ((i : Int).tdiv 2) = ((i / 2 : Nat) : Int) := by
      have e : ((i : Int).tdiv 2) = ((i / 2 : Nat) : Int) := by rw [Int.tdiv_eq_ediv_of_nonneg (by omega)]; omega
      rw [e, IntWalk.i64_in _ (by omega)]
    have w4 : IntKind.i64.wrap (((i * d : Nat) : Int) + ((i / 2 : Nat) : Int)) = ((i * d + i / 2 : Nat) : Int) := by rw [← Int.natCast_add, IntWalk.i64_in _ (by omega)]
    have w5 : (((i * d + i / 2 : Nat) : Int)).tmod 3 = ((bk d i : Nat) : Int) := by unfold bk; rw [Int.tmod_eq_emod_of_nonneg (by omega)]; omega
    have hbk : bk d i < 3 := Nat.mod_lt _ (by decide)
    have hl0 := dl_len d C 0 i
    have hl1 := dl_len d C 1 i
    have hl2 := dl_len d C 2 i
    have hx? : C[i]? = some x := hb
    have h0 : dl d C 0 (i + 1) = dl d C 0 i ++ (if bk d i = 0 then [x] else []) := by show dl d C 0 i ++ _ = _; rw [hx?]; rfl
    have h1 : dl d C 1 (i + 1) = dl d C 1 i ++ (if bk d i = 1 then [x] else []) := by show dl d C 1 i ++ _ = _; rw [hx?]; rfl
    have h2 : dl d C 2 (i + 1) = dl d C 2 i ++ (if bk d i = 2 then [x] else []) := by show dl d C 2 i ++ _ = _; rw [hx?]; rfl
    have eapp : ∀ L : List PtT, L.map encP ++ [[DV.lit (.int .i64 x.1), DV.lit (.int .i64 x.2.1)]] = (L ++ [x]).map encP := fun L => by rw [List.map_append]; rfl
    have hfin : ∀ s' : St, (∃ F ρ, Ent s' F ρ 68 0 [(1, .d (.lit (.int .u8 D))), (5, bool true), (6, .d (.sl 2 (C.map encP))), (7, .own 0), (19, .d (.sl 2 (C.map encP))), (20, int C.length), (21, int (i + 1 : Nat))] (rowsD d C (i + 1))) →
        ∃ (j : { i : Nat // i ≤ C.length }) (F ρ : List Nat), Ent s' F ρ 68 0 [(1, .d (.lit (.int .u8 D))), (5, bool true), (6, .d (.sl 2 (C.map encP))), (7, .own 0), (19, .d (.sl 2 (C.map encP))), (20, int C.length), (21, int j.1)] (rowsD d C j.1) ∧ C.length - j.1 < C.length - i :=
      fun s' ⟨F, ρ, h⟩ => ⟨⟨i + 1, hlt⟩, F, ρ, h, by show C.length - (i + 1) < C.length - i; omega⟩
    have hrd : rowsD d C i = [.box [.own 1, .own 2, .own 3], .own 2 ((dl d C 0 i).map encP), .own 2 ((dl d C 1 i).map encP), .own 2 ((dl d C 2 i).map encP)] := if_neg (by omega)
    rw [hrd]
    have hcase : bk d i = 0 ∨ bk d i = 1 ∨ bk d i = 2 := by omega
    rcases hcase with hcz | hcz | hcz
    · have hbz : bk d i = 0 := by omega
      rw [hbz] at w5
      rw [if_pos hbz] at h0; rw [if_neg (by omega), List.append_nil] at h1; rw [if_neg (by omega), List.append_nil] at h2
      simp only [int, bool, hI, hb, wi, w1, w2, w3, w4, w5, encP, eapp, List.length_map, Int.natCast_nonneg, Int.toNat_natCast, am, simprocAttr, tys]
      refine ⟨⟨by omega, by omega⟩, by kernel_rfl, hfin _ ?_⟩
      by_cases hend : i + 1 = C.length
      · have hr1 : rowsD d C (i + 1) = [.box [.d (.sl 2 (((dl d C 0 i ++ [x])).map encP)), .d (.sl 2 ((dl d C 1 i).map encP)), .d (.sl 2 ((dl d C 2 i).map encP))]] := by unfold rowsD; rw [if_pos hend, h0, h1, h2]
        rw [hr1]
        exact ⟨[517, 2, 3], [0], ⟨rfl, rfl, by simp, (fun i hi => absurd hi (Nat.not_lt_zero _)), ⟨.inr rfl, .inr rfl, .inr rfl, .inr rfl, .inr rfl, .inr rfl, .inr rfl, trivial⟩, ⟨.inr ⟨by decide, rfl⟩, trivial⟩, rfl, by decide, rfl, (by first | rfl | (simp [scRow, tkC_scs]; done) | (simp [scRow, scB]; done))⟩⟩
      · have hr1 : rowsD d C (i + 1) = [.box [.own 1, .own 2, .own 3], .own 2 (((dl d C 0 i ++ [x])).map encP), .own 2 ((dl d C 1 i).map encP), .own 2 ((dl d C 2 i).map encP)] := by unfold rowsD; rw [if_neg hend, h0, h1, h2]
        rw [hr1]
        exact ⟨[], [0, 517, 2, 3], ⟨rfl, rfl, by simp, (fun i hi => absurd hi (Nat.not_lt_zero _)), ⟨.inr rfl, .inr rfl, .inr rfl, .inr rfl, .inr rfl, .inr rfl, .inr rfl, trivial⟩, ⟨.inr ⟨by decide, rfl⟩, .inr ⟨by decide, rfl⟩, .inr ⟨by decide, rfl⟩, .inr ⟨by decide, rfl⟩, trivial⟩, rfl, by decide, rfl, (by first | rfl | (simp [scRow, tkC_scs]; done) | (simp [scRow, scB]; done))⟩⟩
    · have hbz : bk d i = 1 := by omega
      rw [hbz] at w5
      rw [if_neg (by omega), List.append_nil] at h0; rw [if_pos hbz] at h1; rw [if_neg (by omega), List.append_nil] at h2
      simp only [int, bool, hI, hb, wi, w1, w2, w3, w4, w5, encP, eapp, List.length_map, Int.natCast_nonneg, Int.toNat_natCast, am, simprocAttr, tys]
      refine ⟨⟨by omega, by omega⟩, by kernel_rfl, hfin _ ?_⟩
      by_cases hend : i + 1 = C.length
      · have hr1 : rowsD d C (i + 1) = [.box [.d (.sl 2 ((dl d C 0 i).map encP)), .d (.sl 2 (((dl d C 1 i ++ [x])).map encP)), .d (.sl 2 ((dl d C 2 i).map encP))]] := by unfold rowsD; rw [if_pos hend, h0, h1, h2]
        rw [hr1]
        exact ⟨[1, 517, 3], [0], ⟨rfl, rfl, by simp, (fun i hi => absurd hi (Nat.not_lt_zero _)), ⟨.inr rfl, .inr rfl, .inr rfl, .inr rfl, .inr rfl, .inr rfl, .inr rfl, trivial⟩, ⟨.inr ⟨by decide, rfl⟩, trivial⟩, rfl, by decide, rfl, (by first | rfl | (simp [scRow, tkC_scs]; done) | (simp [scRow, scB]; done))⟩⟩
      · have hr1 : rowsD d C (i + 1) = [.box [.own 1, .own 2, .own 3], .own 2 ((dl d C 0 i).map encP), .own 2 (((dl d C 1 i ++ [x])).map encP), .own 2 ((dl d C 2 i).map encP)] := by unfold rowsD; rw [if_neg hend, h0, h1, h2]
        rw [hr1]
        exact ⟨[], [0, 1, 517, 3], ⟨rfl, rfl, by simp, (fun i hi => absurd hi (Nat.not_lt_zero _)), ⟨.inr rfl, .inr rfl, .inr rfl, .inr rfl, .inr rfl, .inr rfl, .inr rfl, trivial⟩, ⟨.inr ⟨by decide, rfl⟩, .inr ⟨by decide, rfl⟩, .inr ⟨by decide, rfl⟩, .inr ⟨by decide, rfl⟩, trivial⟩, rfl, by decide, rfl, (by first | rfl | (simp [scRow, tkC_scs]; done) | (simp [scRow, scB]; done))⟩⟩
    · have hbz : bk d i = 2 := by omega
      rw [hbz] at w5
      rw [if_neg (by omega), List.append_nil] at h0; rw [if_neg (by omega), List.append_nil] at h1; rw [if_pos hbz] at h2
      simp only [int, bool, hI, hb, wi, w1, w2, w3, w4, w5, encP, eapp, List.length_map, Int.natCast_nonneg, Int.toNat_natCast, am, simprocAttr, tys]
      refine ⟨⟨by omega, by omega⟩, by kernel_rfl, hfin _ ?_⟩
      by_cases hend : i + 1 = C.length
      · have hr1 : rowsD d C (i + 1) = [.box [.d (.sl 2 ((dl d C 0 i).map encP)), .d (.sl 2 ((dl d C 1 i).map encP)), .d (.sl 2 (((dl d C 2 i ++ [x])).map encP))]] := by unfold rowsD; rw [if_pos hend, h0, h1, h2]
        rw [hr1]
        exact ⟨[1, 2, 517], [0], ⟨rfl, rfl, by simp, (fun i hi => absurd hi (Nat.not_lt_zero _)), ⟨.inr rfl, .inr rfl, .inr rfl, .inr rfl, .inr rfl, .inr rfl, .inr rfl, trivial⟩, ⟨.inr ⟨by decide, rfl⟩, trivial⟩, rfl, by decide, rfl, (by first | rfl | (simp [scRow, tkC_scs]; done) | (simp [scRow, scB]; done))⟩⟩
      · have hr1 : rowsD d C (i + 1) = [.box [.own 1, .own 2, .own 3], .own 2 ((dl d C 0 i).map encP), .own 2 ((dl d C 1 i).map encP), .own 2 (((dl d C 2 i ++ [x])).map encP)] := by unfold rowsD; rw [if_neg hend, h0, h1, h2]
        rw [hr1]
        exact ⟨[], [0, 1, 2, 517], ⟨rfl, rfl, by simp, (fun i hi => absurd hi (Nat.not_lt_zero _)), ⟨.inr rfl, .inr rfl, .inr rfl, .inr rfl, .inr rfl, .inr rfl, .inr rfl, trivial⟩, ⟨.inr ⟨by decide, rfl⟩, .inr ⟨by decide, rfl⟩, .inr ⟨by decide, rfl⟩, .inr ⟨by decide, rfl⟩, trivial⟩, rfl, by decide, rfl, (by first | rfl | (simp [scRow, tkC_scs]; done) | (simp [scRow, scB]; done))⟩⟩
  · have hI : ¬ ((i : Int) < ((C.length : Nat) : Int)) := by omega
    have hin : i = C.length := by omega
    have hrd : rowsD d C i = [.box [.d (.sl 2 ((dl d C 0 i).map encP)), .d (.sl 2 ((dl d C 1 i).map encP)), .d (.sl 2 ((dl d C 2 i).map encP))]] := if_pos hin
    rw [hrd]
    have hp := dl_perm d C i hi
    rw [List.take_of_length_le (by omega)] at hp
    have hl0 := dl_len d C 0 i
    have hl1 := dl_len d C 1 i
    have hl2 := dl_len d C 2 i
    generalize dl d C 0 i = A at *
    generalize dl d C 1 i = Z at *
    generalize dl d C 2 i = Y at *
    have cA := mergeAllO [A, Z, Y] (by simp) (fun l hl => by simp at hl; rcases hl with rfl | rfl | rfl <;> omega)
    have cB := mergeAllO [Y, A, Z] (by simp) (fun l hl => by simp at hl; rcases hl with rfl | rfl | rfl <;> omega)
    have e1 : ofP [A, Z, Y].flatten = C := ofP_perm (by simpa using hp) hri
    have e2 : ofP [Y, A, Z].flatten = C := ofP_perm (List.Perm.trans (by
      have : [Y, A, Z].flatten = Y ++ (A ++ Z) := by simp
      rw [this]
      exact (List.perm_append_comm (l₁ := Y) (l₂ := A ++ Z)).trans (by rw [List.append_assoc])) hp) hri
    rw [e1] at cA
    rw [e2] at cB
    have cE := same04 C C (by omega) (by omega)
    simp only [decide_true] at cE
    simp only [List.map_cons, List.map_nil, encS] at cA cB
    simp only [int, bool, hI, am, simprocAttr, tys]
    refine ACallD.of (cA) (by kernel_rfl) [] [0] rfl (by simp) (by simp) (by simp) (by simp) (by repeat' (first | exact trivial | exact .inl rfl | exact .inr rfl | exact .inr ⟨rfl, rfl, rfl, by simp; done⟩ | exact .inr ⟨rfl, by simp; done⟩ | exact .inr ⟨rfl, rfl, by simp; done⟩ | apply And.intro)) (by repeat' (first | exact trivial | rfl | exact (tkC_ren.1 _ _).symm | (simp; done) | apply And.intro)) (by first | exact .inl rfl | (refine .inr ⟨trivial, ?_⟩; first | (intro row h; rcases List.mem_singleton.1 h with rfl; exact nvB _) | (intro row h; rcases List.mem_singleton.1 h with rfl; exact nvP2 _) | (intro row h; cases h; done) | (simp; done)) | (refine .inr ⟨by simp [nvP, nvP.nvPs, nvD, nilS, errno], ?_⟩; first | (intro row h; rcases List.mem_singleton.1 h with rfl; exact nvB _) | (intro row h; cases h; done) | (simp [nvRow, nvD, nvP]; done))) rfl rfl rfl rfl ?_
    simp only [am, simprocAttr, tys]
    refine ACallD.of (cE) (by kernel_rfl) [] [193] rfl (by simp) (by simp) (by simp) (by simp) (by repeat' (first | exact trivial | exact .inl rfl | exact .inr rfl | exact .inr ⟨rfl, rfl, rfl, by simp; done⟩ | exact .inr ⟨rfl, by simp; done⟩ | exact .inr ⟨rfl, rfl, by simp; done⟩ | apply And.intro)) (by repeat' (first | exact trivial | rfl | exact (tkC_ren.1 _ _).symm | (simp; done) | apply And.intro)) (by first | exact .inl rfl | (refine .inr ⟨trivial, ?_⟩; first | (intro row h; rcases List.mem_singleton.1 h with rfl; exact nvB _) | (intro row h; rcases List.mem_singleton.1 h with rfl; exact nvP2 _) | (intro row h; cases h; done) | (simp; done)) | (refine .inr ⟨by simp [nvP, nvP.nvPs, nvD, nilS, errno], ?_⟩; first | (intro row h; rcases List.mem_singleton.1 h with rfl; exact nvB _) | (intro row h; cases h; done) | (simp [nvRow, nvD, nvP]; done))) rfl rfl rfl rfl ?_
    simp only [bool, am, simprocAttr, tys]
    refine ACallD.of (cB) (by kernel_rfl) [] [1089] rfl (by simp) (by simp) (by simp) (by simp) (by repeat' (first | exact trivial | exact .inl rfl | exact .inr rfl | exact .inr ⟨rfl, rfl, rfl, by simp; done⟩ | exact .inr ⟨rfl, by simp; done⟩ | exact .inr ⟨rfl, rfl, by simp; done⟩ | apply And.intro)) (by repeat' (first | exact trivial | rfl | exact (tkC_ren.1 _ _).symm | (simp; done) | apply And.intro)) (by first | exact .inl rfl | (refine .inr ⟨trivial, ?_⟩; first | (intro row h; rcases List.mem_singleton.1 h with rfl; exact nvB _) | (intro row h; rcases List.mem_singleton.1 h with rfl; exact nvP2 _) | (intro row h; cases h; done) | (simp; done)) | (refine .inr ⟨by simp [nvP, nvP.nvPs, nvD, nilS, errno], ?_⟩; first | (intro row h; rcases List.mem_singleton.1 h with rfl; exact nvB _) | (intro row h; cases h; done) | (simp [nvRow, nvD, nvP]; done))) rfl rfl rfl rfl ?_
    simp only [am, simprocAttr, tys]
    refine ACallD.of (cE) (by kernel_rfl) [] [1153] rfl (by simp) (by simp) (by simp) (by simp) (by repeat' (first | exact trivial | exact .inl rfl | exact .inr rfl | exact .inr ⟨rfl, rfl, rfl, by simp; done⟩ | exact .inr ⟨rfl, by simp; done⟩ | exact .inr ⟨rfl, rfl, by simp; done⟩ | apply And.intro)) (by repeat' (first | exact trivial | rfl | exact (tkC_ren.1 _ _).symm | (simp; done) | apply And.intro)) (by first | exact .inl rfl | (refine .inr ⟨trivial, ?_⟩; first | (intro row h; rcases List.mem_singleton.1 h with rfl; exact nvB _) | (intro row h; rcases List.mem_singleton.1 h with rfl; exact nvP2 _) | (intro row h; cases h; done) | (simp; done)) | (refine .inr ⟨by simp [nvP, nvP.nvPs, nvD, nilS, errno], ?_⟩; first | (intro row h; rcases List.mem_singleton.1 h with rfl; exact nvB _) | (intro row h; cases h; done) | (simp [nvRow, nvD, nvP]; done))) rfl rfl rfl rfl ?_
    simp only [bool, FinR, evRes, evRVs, evRV, am, simprocAttr, tys]
    exact ⟨by kernel_rfl, ⟨_, [], [], rfl, Ent.plain rfl rfl rfl trivial rfl, rfl, rfl⟩⟩
end Go.Proofs.Ytldckdbdgbpmpaa
