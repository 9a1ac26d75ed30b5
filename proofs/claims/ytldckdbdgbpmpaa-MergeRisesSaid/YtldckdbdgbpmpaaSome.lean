/- Proved here: what functions of the program compute, and plain laws. No condition. -/
import Derived.Test.YtldckdbdgbpmpaaPt
set_option linter.unusedSimpArgs false
set_option linter.unusedVariables false
namespace Go.Proofs.Ytldckdbdgbpmpaa
open Go Go.AM

def encS (l : List PtT) : List DV := [.sl 2 (l.map encP)]
def someP (ls : List (List PtT)) : List (List PtT) := (ls.take 8).map fun l => l.take 200
theorem min_n (n k : Nat) : (if (k : Int) < n then (k : Int) else n) = ((min n k : Nat) : Int) := by
  by_cases h : k < n
  · rw [if_pos (by omega), Nat.min_eq_right (by omega)]
  · rw [if_neg (by omega), Nat.min_eq_left (by omega)]
theorem take_minP {α : Type} (bs : List α) (k : Nat) : bs.take (min bs.length k) = bs.take k := by
  rw [Nat.min_comm]; exact List.take_eq_take_min.symm

theorem few10 (l : List PtT) (hl : l.length ≤ 9223372036854775807) : AFun Try.prog 18 [.d (.sl 2 (l.map encP))] [] (.d (.sl 2 ((l.take 600).map encP))) [] := by
  refine AFun.of_walk hP Try.func18 rfl rfl rfl (by simp) rfl ?_
  have hm := min_n l.length 600
  simp only [Int.cast_ofNat_Int] at hm
  simp only [Try.f18, hm, take_minP, List.length_map, Int.natCast_nonneg, Int.toNat_natCast, ← List.map_take, List.drop_zero, FinR, evRes, evRVs, evRV, am, simprocAttr, tys]
  exact ⟨by omega, ⟨_, [], [], rfl, Ent.plain rfl rfl rfl trivial rfl, rfl, rfl⟩⟩

set_option maxRecDepth 8000 in
theorem some10 (ls : List (List PtT)) (hl : ls.length ≤ 9223372036854775807) (hx : ∀ l ∈ ls, l.length ≤ 9223372036854775807) :
    AFun Try.prog 13 [.d (.sl 1 (ls.map encS))] [] (.d (.sl 1 ((someP ls).map encS))) [] := by
  refine AFun.of_walk hP Try.func13 rfl rfl rfl (by simp) rfl ?_
  simp only [Try.f13, List.length_map, am, simprocAttr, tys]
  refine ALoopW.ghost 3 1 rfl ?_
  simp only [am, simprocAttr, tys]
  refine ALoopW.intro 25 0 (ι := { i : Nat // i ≤ ls.length }) (fun i => [(3, .own 0), (6, .d (.sl 1 (ls.map encS))), (7, int ls.length), (8, int i.1)]) (fun i => [.own 1 ((someP (ls.take i.1)).map encS)]) (fun i => ls.length - i.1)
    ⟨0, by omega⟩ [] [0] ?_ (fun ⟨i, hi⟩ => ?_)
  · exact ⟨rfl, rfl, by simp, (fun i hi => absurd hi (Nat.not_lt_zero _)), ⟨.inr rfl, .inr rfl, .inr rfl, .inr rfl, trivial⟩, ⟨.inr ⟨by decide, rfl⟩, trivial⟩, rfl, by decide, rfl, (by first | rfl | (simp [scRow, tkC_scs]; done) | (simp [scRow, scB]; done))⟩
  simp only at hi ⊢
  rcases Nat.lt_or_ge i ls.length with hlt | hge
  · have hI : ((i : Int) < ((ls.length : Nat) : Int)) := by omega
    have hb : ls[i]? = some ls[i] := List.getElem?_eq_getElem hlt
    have hxl := hx _ (List.getElem_mem hlt)
    have w1 : IntKind.i64.wrap ((i : Int) + 1) = ((i + 1 : Nat) : Int) := by rw [IntWalk.i64_in _ (by omega)]; simp
    have htk : ls.take (i + 1) = ls.take i ++ [ls[i]] := List.take_succ_eq_append_getElem hlt
    have hRl : (someP (ls.take i)).length ≤ 8 := by unfold someP; simp; omega
    generalize ls[i] = l at *
    by_cases h8 : i < 8
    · have hI8 : ((i : Int) < 8) := by omega
      have hm := min_n l.length 200
      simp only [Int.cast_ofNat_Int] at hm
      have hnext : someP (ls.take i) ++ [l.take 200] = someP (ls.take (i + 1)) := by
        unfold someP
        have a1 : (ls.take i).take 8 = ls.take i := List.take_of_length_le (by rw [List.length_take]; omega)
        have a2 : (ls.take i ++ [l]).take 8 = ls.take i ++ [l] := List.take_of_length_le (by rw [List.length_append, List.length_take, List.length_singleton]; omega)
        rw [htk, a1, a2, List.map_append]; rfl
      have eapp : (someP (ls.take i)).map encS ++ [[DV.sl 2 ((l.take 200).map encP)]] = (someP (ls.take (i + 1))).map encS := by rw [← hnext, List.map_append]; rfl
      simp only [int, hI, hb, hI8, hm, encS, take_minP, List.length_map, Int.natCast_nonneg, Int.toNat_natCast, ← List.map_take, List.drop_zero, am, simprocAttr, tys]
      simp only [w1, eapp, List.length_map, am, simprocAttr, tys]
      exact ⟨by omega, by omega, ⟨i + 1, by omega⟩, [], [2], ⟨rfl, rfl, by simp, (fun i hi => absurd hi (Nat.not_lt_zero _)), ⟨.inr rfl, .inr rfl, .inr rfl, .inr rfl, trivial⟩, ⟨.inr ⟨by decide, rfl⟩, trivial⟩, rfl, by decide, rfl, (by first | rfl | (simp [scRow, tkC_scs]; done) | (simp [scRow, scB]; done))⟩, by show ls.length - (i + 1) < ls.length - i; omega⟩
    · have hI8 : ¬ ((i : Int) < 8) := by omega
      have hnext : someP (ls.take i) = someP (ls.take (i + 1)) := by
        unfold someP
        rw [List.take_take, List.take_take, Nat.min_eq_left (by omega), Nat.min_eq_left (by omega)]
      simp only [int, hI, hb, hI8, encS, w1, Int.natCast_nonneg, Int.toNat_natCast, am, simprocAttr, tys]
      rw [hnext]
      exact ⟨⟨i + 1, by omega⟩, [], [0], ⟨rfl, rfl, by simp, (fun i hi => absurd hi (Nat.not_lt_zero _)), ⟨.inr rfl, .inr rfl, .inr rfl, .inr rfl, trivial⟩, ⟨.inr ⟨by decide, rfl⟩, trivial⟩, rfl, by decide, rfl, (by first | rfl | (simp [scRow, tkC_scs]; done) | (simp [scRow, scB]; done))⟩, by show ls.length - (i + 1) < ls.length - i; omega⟩
  · have hI : ¬ ((i : Int) < ((ls.length : Nat) : Int)) := by omega
    rw [List.take_of_length_le hge]
    simp only [int, hI, FinR, evRes, evRVs, evRV, am, simprocAttr, tys]
    exact ⟨_, [0], [], rfl, ⟨rfl, rfl, by simp, (fun i hi => absurd hi (Nat.not_lt_zero _)), trivial, trivial, rfl, by decide, rfl, (by first | rfl | (simp [scRow, tkC_scs]; done) | (simp [scRow, scB]; done))⟩, rfl, rfl⟩

theorem eqP (x y : PtT) : eqLits [.int .i64, .int .i64] (encP x) (encP y) = some (decide (x = y)) := by
  obtain ⟨a, b, ⟨⟩⟩ := x
  obtain ⟨c, d, ⟨⟩⟩ := y
  simp only [encP, eqLits, eqK, if_true, Bool.and_true, Option.some.injEq]
  rw [Bool.eq_iff_iff]
  simp

set_option maxRecDepth 8000 in
theorem same04 (a b : List PtT) (ha : a.length ≤ 9223372036854775807) (hb : b.length ≤ 9223372036854775807) :
    AFun Try.prog 11 [.d (.sl 2 (a.map encP)), .d (.sl 2 (b.map encP))] [] (bool (decide (a = b))) [] := by
  refine AFun.of_walk hP Try.func11 rfl rfl rfl (by simp) rfl ?_
  by_cases hlen : a.length = b.length
  · have hne : (((a.length : Nat) : Int) != ((b.length : Nat) : Int)) = false := by rw [hlen]; exact bne_self_eq_false' _
    have hne' : (((a.length : Nat) : Int) == ((b.length : Nat) : Int)) = true := by rw [hlen]; exact beq_self_eq_true _
    simp only [Try.f11, List.length_map, hne, hne', am, simprocAttr, tys]
    refine ALoopW.intro 26 0 (ι := { i : Nat // i ≤ a.length ∧ a.take i = b.take i }) (fun i => [(0, .d (.sl 2 (a.map encP))), (1, .d (.sl 2 (b.map encP))), (5, int i.1)]) (fun _ => []) (fun i => a.length - i.1) ⟨0, by omega, by simp⟩ [] [] ?_ (fun ⟨i, hi, hab⟩ => ?_)
    · exact Ent.plain rfl rfl rfl (⟨.inr rfl, .inr rfl, .inr rfl, trivial⟩) rfl
    simp only at hi hab ⊢
    rcases Nat.lt_or_ge i a.length with hlt | hge
    · have hI : ((i : Int) < ((a.length : Nat) : Int)) := by omega
      have hx : a[i]? = some a[i] := List.getElem?_eq_getElem hlt
      have hy : b[i]? = some b[i] := List.getElem?_eq_getElem (by omega)
      have hta : a.take (i + 1) = a.take i ++ [a[i]] := List.take_succ_eq_append_getElem hlt
      have htb : b.take (i + 1) = b.take i ++ [b[i]] := List.take_succ_eq_append_getElem (by omega)
      have w1 : IntKind.i64.wrap ((i : Int) + 1) = ((i + 1 : Nat) : Int) := by rw [IntWalk.i64_in _ (by omega)]; simp
      have he := eqP a[i] b[i]
      by_cases hxy : a[i] = b[i]
      · rw [decide_eq_true hxy] at he
        rw [hxy] at hta
        generalize a[i] = x at *
        generalize b[i] = y at *
        simp only [encP] at he
        simp only [int, hI, hx, hy, he, w1, encP, List.length_map, Int.natCast_nonneg, Int.toNat_natCast, am, simprocAttr, tys]
        refine ⟨by kernel_rfl, ?_⟩
        exact ⟨⟨i + 1, by omega, by rw [hta, htb, hab]⟩, [], [], Ent.plain rfl rfl rfl (⟨.inr rfl, .inr rfl, .inr rfl, trivial⟩) rfl, by show a.length - (i + 1) < a.length - i; omega⟩
      · rw [decide_eq_false hxy] at he
        have hne2 : decide (a = b) = false := decide_eq_false fun e => hxy (by subst e; rfl)
        rw [hne2]
        generalize a[i] = x at *
        generalize b[i] = y at *
        simp only [encP] at he
        simp only [int, bool, hI, hx, hy, he, w1, encP, List.length_map, Int.natCast_nonneg, Int.toNat_natCast, FinR, evRes, evRVs, evRV, am, simprocAttr, tys]
        exact ⟨by kernel_rfl, ⟨_, [], [], rfl, Ent.plain rfl rfl rfl trivial rfl, rfl, rfl⟩⟩
    · have hI : ¬ ((i : Int) < ((a.length : Nat) : Int)) := by omega
      have e : a = b := by rwa [List.take_of_length_le hge, List.take_of_length_le (by omega)] at hab
      rw [decide_eq_true e]
      simp only [int, bool, hI, List.length_map, FinR, evRes, evRVs, evRV, am, simprocAttr, tys]
      exact ⟨_, [], [], rfl, Ent.plain rfl rfl rfl trivial rfl, rfl, rfl⟩
  · have hne : (((a.length : Nat) : Int) != ((b.length : Nat) : Int)) = true := by rw [bne_iff_ne]; omega
    have hne' : (((a.length : Nat) : Int) == ((b.length : Nat) : Int)) = false := by rw [beq_eq_false_iff_ne]; omega
    have hne2 : decide (a = b) = false := decide_eq_false fun e => hlen (by rw [e])
    rw [hne2]
    simp only [Try.f11, bool, List.length_map, hne, hne', FinR, evRes, evRVs, evRV, am, simprocAttr, tys]
    exact ⟨_, [], [], rfl, Ent.plain rfl rfl rfl trivial rfl, rfl, rfl⟩
end Go.Proofs.Ytldckdbdgbpmpaa
