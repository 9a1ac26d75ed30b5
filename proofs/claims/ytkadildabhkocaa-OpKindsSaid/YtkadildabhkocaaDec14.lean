/- Proved here: what functions of the program compute, and plain laws. No condition. -/
import Derived.Test.YtkadildabhkocaaLaws14
set_option linter.unusedSimpArgs false
set_option linter.unusedVariables false
namespace Go.Proofs.Ytkadildabhkocaa
open Go Go.AM

/-! ## labels of bytes -/
def decLab (bs : List UInt8) : Option (Lab × List UInt8) :=
  match takeText bs with
  | none => none
  | some (s, r1) => match takeText r1 with
    | none => none
    | some (v, r2) => some ((s, v, ()), r2)
theorem decLab_some (bs : List UInt8) (x : Lab) (r : List UInt8) (h : decLab bs = some (x, r)) : bs = encLab x ++ r := by
  unfold decLab at h
  split at h
  · cases h
  · rename_i s r1 h1
    split at h
    · cases h
    · rename_i v r2 h2
      simp only [Option.some.injEq, Prod.mk.injEq] at h
      obtain ⟨rfl, rfl⟩ := h
      rw [(takeText_some h1).1, (takeText_some h2).1]
      simp [encLab]
theorem decLab_enc (x : Lab) (h1 : x.1.length < 18446744073709551616) (h2 : x.2.1.length < 18446744073709551616) (r : List UInt8) : decLab (encLab x ++ r) = some (x, r) := by
  unfold encLab decLab
  simp only [List.append_assoc, takeText_lebT _ _ h1, takeText_lebT _ _ h2]

def takeLb (b : List UInt8) : Option (List Lab × List UInt8) := takeL decLab rightL 6 b
theorem takeLb_some {b : List UInt8} {l : List Lab} {r : List UInt8} (h : takeLb b = some (l, r)) : rightL l = true ∧ b = putLb l ++ r := takeL_some encLab decLab decLab_some h
theorem takeLb_put (l : List Lab) (r : List UInt8) (h : rightL l = true) : takeLb (putLb l ++ r) = some (l, r) := by
  obtain ⟨h8, _, hall⟩ := rightL_len h
  refine takeL_put encLab decLab r h h8 (by omega) fun x hx r => ?_
  obtain ⟨h1, h2⟩ := hall x hx
  exact decLab_enc x (by omega) (by omega) r
theorem takeLb_none (b : List UInt8) (h : ∀ l r, rightL l = true → b = putLb l ++ r → False) : takeLb b = none := by
  rcases hk : takeLb b with _ | ⟨l, r⟩
  · rfl
  · obtain ⟨h1, h2⟩ := takeLb_some hk
    exact (h l r h1 h2).elim
theorem putLb_inj {l m : List Lab} (h1 : rightL l = true) (h2 : rightL m = true) (h : putLb l = putLb m) : l = m := by
  have e1 := takeLb_put l [] h1
  have e2 := takeLb_put m [] h2
  rw [h, e2] at e1
  simpa using e1.symm


/-! ## what is asked by bytes -/
def decAsk (bs : List UInt8) : Option (Ask × List UInt8) :=
  match bs with
  | [] => none
  | c :: r => match takeText r with
    | none => none
    | some (s, r1) => match takeText r1 with
      | none => none
      | some (v, r2) => some ((c, s, v, ()), r2)
theorem decAsk_some (bs : List UInt8) (x : Ask) (r : List UInt8) (h : decAsk bs = some (x, r)) : bs = encAsk x ++ r := by
  unfold decAsk at h
  split at h
  · cases h
  · rename_i c r0
    split at h
    · cases h
    · rename_i s r1 h1
      split at h
      · cases h
      · rename_i v r2 h2
        simp only [Option.some.injEq, Prod.mk.injEq] at h
        obtain ⟨rfl, rfl⟩ := h
        rw [(takeText_some h1).1, (takeText_some h2).1]
        simp [encAsk]
theorem decAsk_enc (x : Ask) (h1 : x.2.1.length < 18446744073709551616) (h2 : x.2.2.1.length < 18446744073709551616) (r : List UInt8) : decAsk (encAsk x ++ r) = some (x, r) := by
  unfold encAsk decAsk
  simp only [List.cons_append, List.append_assoc, takeText_lebT _ _ h1, takeText_lebT _ _ h2]

def takeA (b : List UInt8) : Option (List Ask × List UInt8) := takeL decAsk rightA 8 b
theorem takeA_some {b : List UInt8} {l : List Ask} {r : List UInt8} (h : takeA b = some (l, r)) : rightA l = true ∧ b = putA l ++ r := takeL_some encAsk decAsk decAsk_some h
theorem takeA_put (l : List Ask) (r : List UInt8) (h : rightA l = true) : takeA (putA l ++ r) = some (l, r) := by
  obtain ⟨h8, hall⟩ := rightA_len h
  refine takeL_put encAsk decAsk r h h8 (by omega) fun x hx r => ?_
  obtain ⟨h1, h2⟩ := mayOk_len (hall x hx)
  exact decAsk_enc x (by omega) (by omega) r
theorem takeA_none (b : List UInt8) (h : ∀ l r, rightA l = true → b = putA l ++ r → False) : takeA b = none := by
  rcases hk : takeA b with _ | ⟨l, r⟩
  · rfl
  · obtain ⟨h1, h2⟩ := takeA_some hk
    exact (h l r h1 h2).elim

theorem lebI_free {a b : Int} {r s : List UInt8} (ha : I64 a) (hb : I64 b) (h : lebI a ++ r = lebI b ++ s) : a = b ∧ r = s := by
  obtain ⟨h1, h2⟩ := leb_prefix_free (fold_lt a ha) (fold_lt b hb) h
  refine ⟨?_, h2⟩
  have := congrArg unfold' h1
  rwa [unfold_fold, unfold_fold] at this
theorem sameO_iff (o p : OpT) : sameO o p = true ↔ o = p := by
  obtain ⟨a, b, ⟨c, d, ⟨⟩⟩, e, ⟨⟩⟩ := o
  obtain ⟨a', b', ⟨c', d', ⟨⟩⟩, e', ⟨⟩⟩ := p
  simp [sameO, ptB]
  intro _
  constructor
  · rintro ⟨⟨h2, h3⟩, h4, h5⟩; exact ⟨h4, ⟨h2, h3⟩, h5⟩
  · rintro ⟨h4, ⟨h2, h3⟩, h5⟩; exact ⟨⟨h2, h3⟩, h4, h5⟩
theorem noL_nil {o : OpT} (h : noL o = true) : o.2.1 = [] := List.length_eq_zero_iff.1 (of_decide_eq_true h)
theorem noA_nil {o : OpT} (h : noA o = true) : o.2.2.2.1 = [] := List.length_eq_zero_iff.1 (of_decide_eq_true h)
theorem putO_inj {o p : OpT} (ho : FitI o) (hp : FitI p) (h1 : rightO o = true) (h2 : rightO p = true) (h : putO o = putO p) : o = p := by
  have hk : o.1 = p.1 := (List.cons.inj h).1
  have ht := (List.cons.inj h).2
  rw [← sameO_iff]
  unfold rightO at h1 h2
  rw [← hk] at h2 ht
  have kk : (o.1 == p.1) = true := by rw [hk]; simp
  by_cases k1 : o.1 = 1
  · rw [if_pos k1] at h1 h2
    rw [if_pos k1, if_pos k1] at ht
    simp only [Bool.and_eq_true] at h1 h2
    have e1 := takeLb_put o.2.1 (lebI o.2.2.1.1 ++ lebI o.2.2.1.2.1) h1.1
    have e2 := takeLb_put p.2.1 (lebI p.2.2.1.1 ++ lebI p.2.2.1.2.1) h2.1
    rw [← List.append_assoc, ht, List.append_assoc, e2] at e1
    simp only [Option.some.injEq, Prod.mk.injEq] at e1
    obtain ⟨g1, g2⟩ := e1
    obtain ⟨g3, g4⟩ := lebI_free hp.p1 ho.p1 g2
    have g5 := (lebI_free (r := []) (s := []) hp.p2 ho.p2 (by rw [List.append_nil, List.append_nil]; exact g4)).1
    unfold sameO ptB
    rw [kk, noA_nil h1.2, noA_nil h2.2, g1, g3, g5]; simp
  · rw [if_neg k1] at h1 h2
    rw [if_neg k1, if_neg k1] at ht
    by_cases k4 : o.1 = 4
    · have k3 : ¬ o.1 = 3 := by rw [k4]; decide
      rw [if_pos k4] at h1 h2
      rw [if_neg k3, if_neg k3, if_pos k4, if_pos k4] at ht
      simp only [Bool.and_eq_true, z1, z2, beq_iff_eq] at h1 h2
      have e1 := takeA_put o.2.2.2.1 [] h1.1
      have e2 := takeA_put p.2.2.2.1 [] h2.1
      rw [ht, e2] at e1
      simp only [Option.some.injEq, Prod.mk.injEq] at e1
      unfold sameO ptB
      rw [kk, noL_nil h1.2.1, noL_nil h2.2.1, e1.1, h1.2.2.1, h1.2.2.2, h2.2.2.1, h2.2.2.2]; simp
    · rw [if_neg k4] at h1 h2
      by_cases k3 : o.1 = 3
      · rw [if_pos k3] at h1 h2
        rw [if_pos k3, if_pos k3] at ht
        simp only [Bool.and_eq_true, z2, beq_iff_eq] at h1 h2
        have g5 := (lebI_free (r := []) (s := []) ho.p1 hp.p1 (by rw [List.append_nil, List.append_nil]; exact ht)).1
        unfold sameO ptB
        rw [kk, noL_nil h1.1, noL_nil h2.1, noA_nil h1.2.1, noA_nil h2.2.1, g5, h1.2.2, h2.2.2]; simp
      · rw [if_neg k3] at h1 h2
        by_cases k2 : o.1 = 2
        · rw [if_pos k2] at h1 h2
          simp only [Bool.and_eq_true, z1, z2, beq_iff_eq] at h1 h2
          unfold sameO ptB
          rw [kk, noL_nil h1.1, noL_nil h2.1, noA_nil h1.2.1, noA_nil h2.2.1, h1.2.2.1, h2.2.2.1, h1.2.2.2, h2.2.2.2]; simp
        · rw [if_neg k2] at h1; cases h1
theorem kind_key {o p : OpT} (ho : FitI o) (hp : FitI p) (h1 : rightO o = true) (h2 : rightO p = true) : ((putO o == putO p) == sameO o p) = true := by
  rw [beq_iff_eq, Bool.eq_iff_iff, beq_iff_eq, sameO_iff]
  exact ⟨putO_inj ho hp h1 h2, fun h => by rw [h]⟩
end Go.Proofs.Ytkadildabhkocaa
