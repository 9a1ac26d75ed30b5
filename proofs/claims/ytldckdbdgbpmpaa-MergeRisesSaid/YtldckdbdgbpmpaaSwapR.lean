/- Proved here: what functions of the program compute, and plain laws. No condition. -/
import Derived.Test.YtldckdbdgbpmpaaStable
set_option linter.unusedSimpArgs false
set_option linter.unusedVariables false
namespace Go.Proofs.Ytldckdbdgbpmpaa
open Go Go.AM

/-! ## two blocks change places -/
theorem swap_sets {α : Type} (X M Z : List α) (x y : α) : ((X ++ x :: (M ++ y :: Z)).set X.length y).set (X.length + 1 + M.length) x = X ++ y :: (M ++ x :: Z) := by
  rw [List.set_append_right _ _ (Nat.le_refl _), Nat.sub_self, List.set_cons_zero, List.set_append_right _ _ (by omega), show X.length + 1 + M.length - X.length = M.length + 1 from by omega, List.set_cons_succ,
    List.set_append_right _ _ (Nat.le_refl _), Nat.sub_self, List.set_cons_zero]
theorem swap_get1 {α : Type} (X M Z : List α) (x y : α) : (X ++ x :: (M ++ y :: Z))[X.length]? = some x := by
  rw [List.getElem?_append_right (Nat.le_refl _), Nat.sub_self]; rfl
theorem swap_get2 {α : Type} (X M Z : List α) (x y : α) : (X ++ x :: (M ++ y :: Z))[X.length + 1 + M.length]? = some y := by
  rw [List.getElem?_append_right (by omega), show X.length + 1 + M.length - X.length = M.length + 1 from by omega, List.getElem?_cons_succ, List.getElem?_append_right (Nat.le_refl _), Nat.sub_self]; rfl
def swD (X U Y V Z : List PtT) (i : Nat) : List PtT := X ++ (V.take i ++ U.drop i) ++ Y ++ (U.take i ++ V.drop i) ++ Z
theorem swD_form (X U Y V Z : List PtT) (i : Nat) (h1 : i < U.length) (h2 : i < V.length) :
    swD X U Y V Z i = (X ++ V.take i) ++ U[i] :: ((U.drop (i + 1) ++ Y ++ U.take i) ++ V[i] :: (V.drop (i + 1) ++ Z)) ∧
    swD X U Y V Z (i + 1) = (X ++ V.take i) ++ V[i] :: ((U.drop (i + 1) ++ Y ++ U.take i) ++ U[i] :: (V.drop (i + 1) ++ Z)) := by
  have e1 : U.drop i = U[i] :: U.drop (i + 1) := List.drop_eq_getElem_cons h1
  have e2 : V.drop i = V[i] :: V.drop (i + 1) := List.drop_eq_getElem_cons h2
  have e3 : U.take (i + 1) = U.take i ++ [U[i]] := List.take_succ_eq_append_getElem h1
  have e4 : V.take (i + 1) = V.take i ++ [V[i]] := List.take_succ_eq_append_getElem h2
  unfold swD
  rw [e1, e2, e3, e4]
  constructor <;> simp only [List.append_assoc, List.cons_append, List.nil_append]

set_option maxRecDepth 8000 in
set_option maxHeartbeats 1000000 in
theorem swapRange (X U Y V Z : List PtT) (f : Nat) (hUV : U.length = V.length) (hl : X.length + U.length + Y.length + V.length + Z.length ≤ 100000000000000) (a b n : Nat) (ha : a = X.length) (hb : b = X.length + U.length + Y.length) (hn : n = U.length) :
    AFun Try.prog 38 [.own 0, int a, int b, int n, .clo (.func f) [] []] [.own 2 ((X ++ U ++ Y ++ V ++ Z).map encP)] (.tup []) [.own 2 ((X ++ V ++ Y ++ U ++ Z).map encP)] := by
  refine AFun.of_walk hP Try.func38 rfl rfl rfl (by simp) rfl ?_
  have s0 : X ++ U ++ Y ++ V ++ Z = swD X U Y V Z 0 := by simp [swD]
  have sn : X ++ V ++ Y ++ U ++ Z = swD X U Y V Z n := by
    unfold swD
    rw [List.take_of_length_le (by omega), List.drop_of_length_le (by omega), List.take_of_length_le (by omega), List.drop_of_length_le (by omega)]
    simp
  rw [s0, sn]
  simp only [Try.f38, int, am, simprocAttr, tys]
  refine ALoopW.intro 38 1 (ι := { i : Nat // i ≤ n }) (fun i => [(0, .own 0), (1, int a), (2, int b), (3, int n), (10, int i.1)]) (fun i => [.own 2 ((swD X U Y V Z i.1).map encP)]) (fun i => n - i.1) ⟨0, by omega⟩ [] [0] ?_ (fun ⟨i, hi⟩ => ?_)
  · exact ⟨rfl, rfl, by simp, (fun i hi => .inr ((by decide : ∀ i, i < 1 → ([0] : List Nat).getD i 0 = i) i hi)), ⟨.inr rfl, .inr rfl, .inr rfl, .inr rfl, .inr rfl, trivial⟩, ⟨.inr ⟨by decide, rfl⟩, trivial⟩, rfl, by decide, rfl, (by first | rfl | (simp [scRow, tkC_scs]; done) | (simp [scRow, scB]; done))⟩
  simp only at hi ⊢
  rcases Nat.lt_or_ge i n with hlt | hge
  · have hltI : ((i : Int) < (n : Int)) := by omega
    have h1 : i < U.length := by omega
    have h2 : i < V.length := by omega
    obtain ⟨f1, f2⟩ := swD_form X U Y V Z i h1 h2
    rw [f1]
    have hnext : swD X U Y V Z (i + 1) = _ := f2
    generalize U[i] = x at *
    generalize V[i] = y at *
    have lX : (X ++ V.take i).length = a + i := by rw [List.length_append, List.length_take]; omega
    have lM : (U.drop (i + 1) ++ Y ++ U.take i).length = b - a - 1 := by rw [List.length_append, List.length_append, List.length_drop, List.length_take]; omega
    have lZ : (V.drop (i + 1) ++ Z).length = V.length - (i + 1) + Z.length := by rw [List.length_append, List.length_drop]
    generalize X ++ V.take i = X' at *
    generalize U.drop (i + 1) ++ Y ++ U.take i = M at *
    generalize V.drop (i + 1) ++ Z = Z' at *
    have hab : a + i + 1 + M.length = b + i := by omega
    have hs := swap_sets X' M Z' x y
    have g1 := swap_get1 X' M Z' x y
    have g2 := swap_get2 X' M Z' x y
    rw [lX, hab] at hs g2
    rw [lX] at g1
    have hD : (X' ++ x :: (M ++ y :: Z')).length = a + i + 1 + M.length + 1 + Z'.length := by
      rw [List.length_append, List.length_cons, List.length_append, List.length_cons, lX]; omega
    generalize X' ++ x :: (M ++ y :: Z') = D at *
    have w1 : IntKind.i64.wrap ((a : Int) + (i : Int)) = ((a + i : Nat) : Int) := by rw [IntWalk.i64_in _ (by omega)]; simp
    have w2 : IntKind.i64.wrap ((b : Int) + (i : Int)) = ((b + i : Nat) : Int) := by rw [IntWalk.i64_in _ (by omega)]; simp
    have e1 : IntKind.i64.wrap ((i : Int) + 1) = ((i + 1 : Nat) : Int) := by rw [IntWalk.i64_in _ (by omega)]; simp
    have hai : ((a + i : Nat) : Int) < ((a + i + 1 + M.length + 1 + Z'.length : Nat) : Int) := by omega
    have hbi : ((b + i : Nat) : Int) < ((a + i + 1 + M.length + 1 + Z'.length : Nat) : Int) := by omega
    have g3 : (D.set (a + i) y)[b + i]? = some y := by rw [List.getElem?_set_ne (by omega)]; exact g2
    have m1 : ∀ (l : List PtT) (k : Nat) (z : PtT), (l.map encP).set k (encP z) = (l.set k z).map encP := fun l k z => mapSet2 l k z
    have hsl : (D.set (a + i) y).length = a + i + 1 + M.length + 1 + Z'.length := by rw [List.length_set, hD]
    simp only [encP] at m1
    simp only [int, hltI, w1, w2, hD, hai, hbi, g1, g2, g3, hsl, m1, encP, Int.natCast_nonneg, Int.toNat_natCast, am, simprocAttr, tys]
    refine ⟨by kernel_rfl, ?_⟩
    have hs' := hs.trans hnext.symm
    simp only [e1, hs', am, simprocAttr, tys]
    exact ⟨⟨i + 1, by omega⟩, [], [0], ⟨rfl, rfl, by simp, (fun i hi => .inr ((by decide : ∀ i, i < 1 → ([0] : List Nat).getD i 0 = i) i hi)), ⟨.inr rfl, .inr rfl, .inr rfl, .inr rfl, .inr rfl, trivial⟩, ⟨.inr ⟨by decide, rfl⟩, trivial⟩, rfl, by decide, rfl, (by first | rfl | (simp [scRow, tkC_scs]; done) | (simp [scRow, scB]; done))⟩, by show n - (i + 1) < n - i; omega⟩
  · have hltI : ¬ ((i : Int) < (n : Int)) := by omega
    obtain rfl : i = n := by omega
    simp only [int, hltI, FinR, evRes, evRVs, evRV, am, simprocAttr, tys]
    exact ⟨_, [], [0], rfl, ⟨rfl, rfl, by simp, (fun i hi => .inr ((by decide : ∀ i, i < 1 → ([0] : List Nat).getD i 0 = i) i hi)), trivial, ⟨.inr ⟨by decide, rfl⟩, trivial⟩, rfl, by decide, rfl, (by first | rfl | (simp [scRow, tkC_scs]; done) | (simp [scRow, scB]; done))⟩, rfl, rfl⟩
end Go.Proofs.Ytldckdbdgbpmpaa
