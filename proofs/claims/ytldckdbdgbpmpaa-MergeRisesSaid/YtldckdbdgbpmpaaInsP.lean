/- Proved here: what functions of the program compute, and plain laws. No condition. -/
import Derived.Test.YtldckdbdgbpmpaaIsort
import Derived.Test.YtldckdbdgbpmpaaPt
set_option linter.unusedSimpArgs false
set_option linter.unusedVariables false
namespace Go.Proofs.Ytldckdbdgbpmpaa
open Go Go.AM

theorem mapSet2 (l : List PtT) (i : Nat) (x : PtT) : (l.map encP).set i (encP x) = (l.set i x).map encP := List.map_set.symm

set_option maxRecDepth 8000 in
theorem insSort (A S B : List PtT) (f : Nat) (c : PtT → PtT → Int) (hf : isFn Try.prog f = true) (hnv : ∀ l : List PtT, nvRow (.own 2 (l.map encP)))
    (hc : ∀ x ∈ A ++ S ++ B, ∀ y ∈ A ++ S ++ B, AFun Try.prog f [.d (.agg (encP x)), .d (.agg (encP y))] [] (int (c x y)) []) (hl : (A ++ S ++ B).length ≤ 100000000000000) (a b : Nat) (ha : a = A.length) (hb : b = A.length + S.length) :
    AFun Try.prog 35 [.own 0, int a, int b, .clo (.func f) [] []] [.own 2 ((A ++ S ++ B).map encP)] (.tup []) [.own 2 ((A ++ isort (fun x y => decide (c x y < 0)) S ++ B).map encP)] := by
  refine AFun.of_walk hP Try.func35 rfl rfl rfl (by simp) rfl ?_
  have hl3 : A.length + S.length + B.length ≤ 100000000000000 := by simpa [Nat.add_assoc] using hl
  have w1 : IntKind.i64.wrap ((a : Int) + 1) = ((a + 1 : Nat) : Int) := by rw [IntWalk.i64_in _ (by omega)]; simp
  simp only [Try.f35, int, w1, am, simprocAttr, tys]
  refine ALoopW.intro 53 1 (ι := { i : Nat // i ≤ S.length ∧ (i = 0 → S.length = 0) ∨ i = 1 ∧ S.length = 0 }) (fun i => [(0, .own 0), (1, int a), (2, int b), (3, .clo (.func f) [] []), (8, int ((a + i.1 : Nat) : Int))]) (fun i => [.own 2 ((A ++ (isort (fun x y => decide (c x y < 0)) (S.take i.1) ++ S.drop i.1) ++ B).map encP)]) (fun i => S.length - i.1) ⟨1, by omega⟩ [] [0] ?_ (fun ⟨i, hi⟩ => ?_)
  · refine ⟨rfl, rfl, by simp, (fun i hi => .inr ((by decide : ∀ i, i < 1 → ([0] : List Nat).getD i 0 = i) i hi)), ⟨.inr rfl, .inr rfl, .inr rfl, .inr rfl, .inr rfl, trivial⟩, ⟨.inr ⟨by decide, ?_⟩, trivial⟩, rfl, by decide, rfl, (by first | rfl | (simp [scRow, tkC_scs]; done) | (simp [scRow, scB]; done))⟩
    have e : isort (fun x y => decide (c x y < 0)) (S.take 1) ++ S.drop 1 = S := by
      cases S with
      | nil => rfl
      | cons x S => rfl
    simp only [e]; rfl
  have hio : i ≤ S.length ∨ i = 1 ∧ S.length = 0 := by omega
  rcases Nat.lt_or_ge i S.length with hlt | hge
  · have hltI : (((a + i : Nat) : Int) < (b : Int)) := by omega
    have hi1 : 1 ≤ i := by omega
    have w2 : IntKind.i64.wrap (((a + i : Nat) : Int) + 1) = ((a + (i + 1) : Nat) : Int) := by rw [IntWalk.i64_in _ (by omega)]; omega
    have hpl : (isort (fun x y => decide (c x y < 0)) (S.take i)).length = i := by rw [isort_length, List.length_take]; omega
    have hst : isort (fun x y => decide (c x y < 0)) (S.take (i + 1)) = insR (fun x y => decide (c x y < 0)) (isort (fun x y => decide (c x y < 0)) (S.take i)) S[i] := by
      rw [List.take_succ_eq_append_getElem hlt, isort_snoc]
    have hdr : S.drop i = S[i] :: S.drop (i + 1) := List.drop_eq_getElem_cons hlt
    have hmemp : ∀ y ∈ isort (fun x y => decide (c x y < 0)) (S.take i), y ∈ A ++ S ++ B := fun y hy => by
      have := (isort_perm (fun x y => decide (c x y < 0)) (S.take i)).mem_iff.1 hy
      have := List.mem_of_mem_take this
      simp [this]
    have hmemx : S[i] ∈ A ++ S ++ B := by
      have := List.getElem_mem hlt
      simp [this]
    generalize hp : isort (fun x y => decide (c x y < 0)) (S.take i) = p at *
    generalize hx : S[i] = x at *
    simp only [int, hltI, am, simprocAttr, tys]
    refine ALoopW.intro 53 1 (ι := { j : Nat // j ≤ i ∧ ∀ m, j ≤ m → (h : m < p.length) → decide (c x p[m] < 0) = true }) (fun j => [(0, .own 0), (1, int a), (2, int b), (3, .clo (.func f) [] []), (8, int ((a + i : Nat) : Int)), (9, int ((a + j.1 : Nat) : Int))]) (fun j => [.own 2 ((A ++ (p.take j.1 ++ x :: p.drop j.1 ++ S.drop (i + 1)) ++ B).map encP)]) (fun j => j.1) ⟨i, by omega, fun m h1 h2 => by omega⟩ [] [0] ?_ (fun ⟨j, hj, hall⟩ => ?_)
    · refine ⟨rfl, rfl, by simp, (fun i hi => .inr ((by decide : ∀ i, i < 1 → ([0] : List Nat).getD i 0 = i) i hi)), ⟨.inr rfl, .inr rfl, .inr rfl, .inr rfl, .inr rfl, .inr rfl, trivial⟩, ⟨.inr ⟨by decide, ?_⟩, trivial⟩, rfl, by decide, rfl, (by first | rfl | (simp [scRow, tkC_scs]; done) | (simp [scRow, scB]; done))⟩
      have e : p.take i ++ x :: p.drop i ++ S.drop (i + 1) = p ++ S.drop i := by
        rw [List.take_of_length_le (by omega), List.drop_of_length_le (by omega), hdr]; simp
      simp only [e]; rfl
    have hD : (A ++ (p.take j ++ x :: p.drop j ++ S.drop (i + 1)) ++ B).length = A.length + S.length + B.length := by
      simp; omega
    have hjx : (A ++ (p.take j ++ x :: p.drop j ++ S.drop (i + 1)) ++ B)[a + j]? = some x := by
      rw [ha, List.append_assoc, List.getElem?_append_right (by omega), show A.length + j - A.length = j from by omega, List.append_assoc, List.append_assoc, List.getElem?_append_right (by rw [List.length_take]; omega), List.length_take, show j - min j p.length = 0 from by omega]
      rfl
    have hajI : (((a + j : Nat) : Int) < ((A.length + S.length + B.length : Nat) : Int)) := by omega
    have hexit : (j = 0 ∨ ∃ y, p[j - 1]? = some y ∧ decide (c x y < 0) = false) → A ++ (p.take j ++ x :: p.drop j ++ S.drop (i + 1)) ++ B = A ++ (isort (fun x y => decide (c x y < 0)) (S.take (i + 1)) ++ S.drop (i + 1)) ++ B := fun h => by
      rw [hst, insR_at _ p x j (by omega) hall h]
    have hout : ∀ k : Nat, k = i + 1 → k ≤ S.length ∧ (k = 0 → S.length = 0) ∨ k = 1 ∧ S.length = 0 := fun k hk => by omega
    generalize hDD : A ++ (p.take j ++ x :: p.drop j ++ S.drop (i + 1)) ++ B = D at *
    rcases Nat.eq_zero_or_pos j with h0 | h0
    · have hg : ¬ ((a : Int) < ((a + j : Nat) : Int)) := by omega
      have he := hexit (.inl h0)
      simp only [int, hg, w2, am, simprocAttr, tys]
      refine ⟨by kernel_rfl, ⟨i + 1, hout _ rfl⟩, [], [0], ⟨rfl, rfl, by simp, (fun i hi => .inr ((by decide : ∀ i, i < 1 → ([0] : List Nat).getD i 0 = i) i hi)), ⟨.inr rfl, .inr rfl, .inr rfl, .inr rfl, .inr rfl, trivial⟩, ⟨.inr ⟨by decide, ?_⟩, trivial⟩, rfl, by decide, rfl, (by first | rfl | (simp [scRow, tkC_scs]; done) | (simp [scRow, scB]; done))⟩, by show S.length - (i + 1) < S.length - i; omega⟩
      simp only [he]; rfl
    · have hg : ((a : Int) < ((a + j : Nat) : Int)) := by omega
      have hj1 : j - 1 < p.length := by omega
      have w3 : IntKind.i64.wrap (((a + j : Nat) : Int) - 1) = ((a + (j - 1) : Nat) : Int) := by rw [IntWalk.i64_in _ (by omega)]; omega
      have hjy : D[a + (j - 1)]? = some p[j - 1] := by
        rw [← hDD, ha, List.append_assoc, List.getElem?_append_right (by omega), show A.length + (j - 1) - A.length = j - 1 from by omega, List.append_assoc, List.append_assoc, List.getElem?_append_left (by rw [List.length_take]; omega), List.getElem?_take, if_pos (by omega)]
        exact List.getElem?_eq_getElem hj1
      have hajI2 : (((a + (j - 1) : Nat) : Int) < ((A.length + S.length + B.length : Nat) : Int)) := by omega
      have hcall := hc x hmemx p[j - 1] (hmemp _ (List.getElem_mem hj1))
      simp only [int, hg, w3, hD, hajI, hajI2, hjx, hjy, encP, Int.natCast_nonneg, Int.toNat_natCast, am, simprocAttr, tys]
      refine ACallD.of hcall hf [] [] rfl (by simp) (by simp) (by simp) (by simp) (by repeat' (first | exact trivial | exact .inl rfl | exact .inr rfl | exact .inr ⟨rfl, by simp⟩ | exact .inr ⟨rfl, rfl, by simp⟩ | apply And.intro)) trivial (.inl rfl) rfl rfl rfl rfl ?_
      rcases hcmp : decide (c x p[j - 1] < 0) with _ | _
      · have he := hexit (.inr ⟨p[j - 1], List.getElem?_eq_getElem hj1, hcmp⟩)
        simp only [int, hcmp, w2, am, simprocAttr, tys]
        refine ⟨by kernel_rfl, ⟨i + 1, hout _ rfl⟩, [], [0], ⟨rfl, rfl, by simp, (fun i hi => .inr ((by decide : ∀ i, i < 1 → ([0] : List Nat).getD i 0 = i) i hi)), ⟨.inr rfl, .inr rfl, .inr rfl, .inr rfl, .inr rfl, trivial⟩, ⟨.inr ⟨by decide, ?_⟩, trivial⟩, rfl, by decide, rfl, (by first | rfl | (simp [scRow, tkC_scs]; done) | (simp [scRow, scB]; done))⟩, by show S.length - (i + 1) < S.length - i; omega⟩
        simp only [he]; rfl
      · have hswap : (D.set (a + j) p[j - 1]).set (a + (j - 1)) x = A ++ (p.take (j - 1) ++ x :: p.drop (j - 1) ++ S.drop (i + 1)) ++ B := by
          rw [← hDD, ha]
          have e1 : p.take j = p.take (j - 1) ++ [p[j - 1]] := by
            have := List.take_succ_eq_append_getElem hj1
            rwa [show j - 1 + 1 = j from by omega] at this
          have e2 : p.drop (j - 1) = p[j - 1] :: p.drop j := by
            have := List.drop_eq_getElem_cons hj1
            rwa [show j - 1 + 1 = j from by omega] at this
          have l1 : (p.take (j - 1)).length = j - 1 := by rw [List.length_take]; omega
          rw [e1, e2]
          generalize p[j - 1] = y
          generalize hq : p.take (j - 1) = q at *
          simp only [List.append_assoc]
          rw [List.set_append_right _ _ (by omega), show A.length + j - A.length = j from by omega, List.set_append_right _ _ (by omega), List.set_append_right _ _ (by omega), show A.length + (j - 1) - A.length = j - 1 from by omega, List.set_append_right _ _ (by omega), l1, show j - (j - 1) = 1 from by omega, show j - 1 - (j - 1) = 0 from by omega]
          rfl
        have hall' : ∀ m, j - 1 ≤ m → (h : m < p.length) → decide (c x p[m] < 0) = true := fun m h1 h2 => by
          rcases Nat.eq_or_lt_of_le h1 with rfl | h3
          · exact hcmp
          · exact hall m (by omega) h2
        have m1 : ∀ (l : List PtT) (k : Nat) (z : PtT), (l.map encP).set k (encP z) = (l.set k z).map encP := fun l k z => mapSet2 l k z
        have hDl : D.length = A.length + S.length + B.length := hD
        have hsl : (D.set (a + j) p[j - 1]).length = A.length + S.length + B.length := by rw [List.length_set, hDl]
        have hset : (D.set (a + j) p[j - 1])[a + (j - 1)]? = some p[j - 1] := by rw [List.getElem?_set_ne (by omega)]; exact hjy
        simp only [encP] at m1
        simp only [int, hcmp, w3, hD, hDl, hajI, hajI2, hjx, hjy, hset, m1, hsl, encP, Int.natCast_nonneg, Int.toNat_natCast, am, simprocAttr, tys]
        refine ⟨by kernel_rfl, by kernel_rfl, ⟨j - 1, by omega, hall'⟩, [], [0], ⟨rfl, rfl, by simp, (fun i hi => .inr ((by decide : ∀ i, i < 1 → ([0] : List Nat).getD i 0 = i) i hi)), ⟨.inr rfl, .inr rfl, .inr rfl, .inr rfl, .inr rfl, .inr rfl, trivial⟩, ⟨.inr ⟨by decide, ?_⟩, trivial⟩, rfl, by decide, rfl, (by first | rfl | (simp [scRow, tkC_scs]; done) | (simp [scRow, scB]; done))⟩, by show j - 1 < j; omega⟩
        simp only [← hswap]; rfl
  · have hltI : ¬ (((a + i : Nat) : Int) < (b : Int)) := by omega
    have e : isort (fun x y => decide (c x y < 0)) (S.take i) ++ S.drop i = isort (fun x y => decide (c x y < 0)) S := by
      rw [List.take_of_length_le hge, List.drop_of_length_le hge, List.append_nil]
    simp only [int, hltI, e, FinR, evRes, evRVs, evRV, am, simprocAttr, tys]
    refine ⟨_, [], [0], rfl, ⟨rfl, rfl, by simp, (fun i hi => .inr ((by decide : ∀ i, i < 1 → ([0] : List Nat).getD i 0 = i) i hi)), trivial, ⟨.inr ⟨by decide, ?_⟩, trivial⟩, rfl, by decide, rfl, (by first | rfl | (simp [scRow, tkC_scs]; done) | (simp [scRow, scB]; done))⟩, rfl, rfl⟩
    rfl
end Go.Proofs.Ytldckdbdgbpmpaa
