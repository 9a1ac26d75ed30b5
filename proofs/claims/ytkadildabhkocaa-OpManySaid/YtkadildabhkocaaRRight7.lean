/- Proved here: what functions of the program compute, and plain laws. No condition. -/
import Derived.Test.YtkadildabhkocaaRight7
set_option linter.unusedSimpArgs false
set_option linter.unusedVariables false
namespace Go.Proofs.Ytkadildabhkocaa
open Go Go.AM

theorem all_step {α : Type} (p : α → Bool) (l : List α) (i : Nat) (hi : i < l.length) (h : ∀ x ∈ l.take i, p x = true) (hp : p l[i] = true) : ∀ x ∈ l.take (i + 1), p x = true := by
  intro x hx
  rw [List.take_succ_eq_append_getElem hi] at hx
  rcases List.mem_append.1 hx with h' | h'
  · exact h x h'
  · simp at h'; subst h'; exact hp
theorem all_not {α : Type} (p : α → Bool) (l : List α) (i : Nat) (hi : i < l.length) (hp : p l[i] = false) : l.all p = false := by
  rw [List.all_eq_false]; exact ⟨l[i], List.getElem_mem hi, by simp [hp]⟩


set_option maxRecDepth 8000 in
theorem refRight (l : List Ask) (hl : l.length ≤ 9223372036854775807) (hn : ∀ a ∈ l, a.2.1.length ≤ 9223372036854775807) : AFun Try.prog 28 [.d (.sl 3 (l.map encA))] [] (bool (rightA l)) [] := by
  refine AFun.of_walk hP Try.func28 rfl rfl rfl (by simp) rfl ?_
  simp only [Try.f28, am, simprocAttr, tys]
  refine ALoopW.intro 58 0 (ι := { i : Nat // i ≤ l.length ∧ ∀ x ∈ l.take i, mayOk x = true }) (fun i => [(0, .d (.sl 3 (l.map encA))), (3, int i.1)]) (fun _ => []) (fun i => l.length - i.1) ⟨0, by omega, by simp⟩ [] [] ?_ (fun ⟨i, hi, hall⟩ => ?_)
  · exact Ent.plain rfl rfl rfl (⟨.inr rfl, .inr rfl, trivial⟩) rfl
  rcases Nat.lt_or_ge i l.length with hlt | hge
  · have hb : l[i]? = some l[i] := List.getElem?_eq_getElem hlt
    have hlt2 : ((i : Int) < l.length) := by omega
    have e1 : IntKind.i64.wrap ((i : Int) + 1) = ((i + 1 : Nat) : Int) := by rw [IntWalk.i64_in _ (by omega)]; simp
    have hnn := hn l[i] (List.getElem_mem hlt)
    have hrej : mayOk l[i] = false → rightA l = false := fun h => by unfold rightA; rw [all_not mayOk l i hlt h]; rfl
    have hcont := all_step mayOk l i hlt hall
    generalize hA : l[i] = A at *
    obtain ⟨op, name, val, u⟩ := A
    simp only at hnn
    have hm : mayOk (op, name, val, u) = (nameOk name && decide (val.length ≤ 64) && (if op = 1 then !(val == []) else if op = 4 then val == [] else decide (op = 2) || decide (op = 3))) := rfl
    have c1 : ((op.toNat : Int) == 1) = decide (op = 1) := u8eq op 1 (by omega)
    have c4 : ((op.toNat : Int) == 4) = decide (op = 4) := u8eq op 4 (by omega)
    have hn0 : ∀ k : Nat, k < 256 → (op = UInt8.ofNat k ↔ op.toNat = k) := fun k hk => by
      constructor
      · intro h; subst h; simp; omega
      · intro h; apply UInt8.toNat_inj.1; simp; omega
    have d1 : op = 1 ↔ op.toNat = 1 := hn0 1 (by omega)
    have d2 : op = 2 ↔ op.toNat = 2 := hn0 2 (by omega)
    have d3 : op = 3 ↔ op.toNat = 3 := hn0 3 (by omega)
    have d4 : op = 4 ↔ op.toNat = 4 := hn0 4 (by omega)
    rcases Nat.lt_or_ge op.toNat 1 with g1 | g1
    · have g1I : ((op.toNat : Int) < 1) := by omega
      have hr := hrej (by rw [hm, if_neg (by rw [d1]; omega), if_neg (by rw [d4]; omega), decide_eq_false (show ¬ op = 2 by rw [d2]; omega), decide_eq_false (show ¬ op = 3 by rw [d3]; omega)]; simp)
      simp only [int, hb, hA, hlt2, encA, g1I, hr, bool, Int.natCast_nonneg, FinR, evRes, evRVs, evRV, am, simprocAttr, tys]
      exact ⟨_, [], [], rfl, Ent.plain rfl rfl rfl trivial rfl, rfl, rfl⟩
    · have g1I : ¬ ((op.toNat : Int) < 1) := by omega
      rcases Nat.lt_or_ge 4 op.toNat with g4 | g4
      · have g4I : ((4 : Int) < (op.toNat : Int)) := by omega
        have hr := hrej (by rw [hm, if_neg (by rw [d1]; omega), if_neg (by rw [d4]; omega), decide_eq_false (show ¬ op = 2 by rw [d2]; omega), decide_eq_false (show ¬ op = 3 by rw [d3]; omega)]; simp)
        simp only [int, hb, hA, hlt2, encA, g1I, g4I, hr, bool, Int.natCast_nonneg, FinR, evRes, evRVs, evRV, am, simprocAttr, tys]
        exact ⟨_, [], [], rfl, Ent.plain rfl rfl rfl trivial rfl, rfl, rfl⟩
      · have g4I : ¬ ((4 : Int) < (op.toNat : Int)) := by omega
        simp only [int, hb, hA, hlt2, encA, g1I, g4I, Int.natCast_nonneg, am, simprocAttr, tys]
        refine ACall.of (refName name hnn) [] [] rfl (by simp) (by simp) (by simp) (by repeat' (first | exact trivial | exact .inl rfl | exact .inr rfl | exact .inr ⟨rfl, by simp⟩ | exact .inr ⟨rfl, rfl, by simp⟩ | apply And.intro)) (by repeat' (first | exact trivial | rfl | exact (tkC_ren.1 _ _).symm | (simp; done) | apply And.intro)) (by first | exact .inl rfl | (refine .inr ⟨trivial, ?_⟩; first | (intro row h; rcases List.mem_singleton.1 h with rfl; exact nvB _) | (intro row h; cases h; done) | (simp; done)) | (refine .inr ⟨by simp [nvP, nvP.nvPs, nvD, nilS, errno], ?_⟩; first | (intro row h; rcases List.mem_singleton.1 h with rfl; exact nvB _) | (intro row h; cases h; done) | (simp [nvRow, nvD, nvP]; done))) ?_
        rcases hnm : nameOk name with _ | _
        · have hr := hrej (by rw [hm, hnm]; simp)
          simp only [hr, bool, FinR, evRes, evRVs, evRV, am, simprocAttr, tys]
          exact ⟨_, [], [], rfl, Ent.plain rfl rfl rfl trivial rfl, rfl, rfl⟩
        · rcases Nat.lt_or_ge 64 val.length with hv | hv
          · have hI : ((64 : Int) < val.length) := by omega
            have hr := hrej (by rw [hm, decide_eq_false (show ¬ val.length ≤ 64 by omega)]; simp)
            simp only [hr, hI, bl_size, bool, FinR, evRes, evRVs, evRV, am, simprocAttr, tys]
            exact ⟨_, [], [], rfl, Ent.plain rfl rfl rfl trivial rfl, rfl, rfl⟩
          · have hI : ¬ ((64 : Int) < val.length) := by omega
            rw [hnm, decide_eq_true hv] at hm
            by_cases h4 : op = 4
            · have h1 : ¬ op = 1 := by rw [d1, d4.1 h4]; omega
              rw [if_neg h1, if_pos h4] at hm
              have hd1 : decide (op = 1) = false := decide_eq_false h1
              have hd4 : decide (op = 4) = true := decide_eq_true h4
              rcases hve : (val == []) with _ | _
              · have hr := hrej (by rw [hm, hve]; rfl)
                simp only [hr, hI, bl_size, bl_toList, bool, c4, c1, hd4, hd1, hve, FinR, evRes, evRVs, evRV, am, simprocAttr, tys]
                exact ⟨_, [], [], rfl, Ent.plain rfl rfl rfl trivial rfl, rfl, rfl⟩
              · have hc := hcont (by rw [hm, hve]; rfl)
                simp only [hI, bl_size, bl_toList, bool, c4, c1, hd4, hd1, hve, e1, am, simprocAttr, tys]
                exact ⟨⟨i + 1, by omega, hc⟩, [], [], Ent.plain rfl rfl rfl (⟨.inr rfl, .inr rfl, trivial⟩) rfl, by show l.length - (i + 1) < l.length - i; omega⟩
            · have hd4 : decide (op = 4) = false := decide_eq_false h4
              by_cases h1 : op = 1
              · rw [if_pos h1] at hm
                have hd1 : decide (op = 1) = true := decide_eq_true h1
                rcases hve : (val == []) with _ | _
                · have hc := hcont (by rw [hm, hve]; rfl)
                  simp only [hI, bl_size, bl_toList, bool, c4, c1, hd4, hd1, hve, e1, am, simprocAttr, tys]
                  exact ⟨⟨i + 1, by omega, hc⟩, [], [], Ent.plain rfl rfl rfl (⟨.inr rfl, .inr rfl, trivial⟩) rfl, by show l.length - (i + 1) < l.length - i; omega⟩
                · have hr := hrej (by rw [hm, hve]; rfl)
                  simp only [hr, hI, bl_size, bl_toList, bool, c4, c1, hd4, hd1, hve, FinR, evRes, evRVs, evRV, am, simprocAttr, tys]
                  exact ⟨_, [], [], rfl, Ent.plain rfl rfl rfl trivial rfl, rfl, rfl⟩
              · rw [if_neg h1, if_neg h4] at hm
                have hd1 : decide (op = 1) = false := decide_eq_false h1
                have hc := hcont (by
                  rw [hm]
                  by_cases h2 : op = 2
                  · rw [decide_eq_true h2]; rfl
                  · rw [decide_eq_true (show op = 3 by rw [d3]; rw [d1] at h1; rw [d2] at h2; rw [d4] at h4; omega)]; simp)
                simp only [hI, bl_size, bl_toList, bool, c4, c1, hd4, hd1, e1, am, simprocAttr, tys]
                exact ⟨⟨i + 1, by omega, hc⟩, [], [], Ent.plain rfl rfl rfl (⟨.inr rfl, .inr rfl, trivial⟩) rfl, by show l.length - (i + 1) < l.length - i; omega⟩
  · have hlt2 : ¬ ((i : Int) < l.length) := by omega
    have hi' : i = l.length := by omega
    have e : rightA l = decide ((l.length : Int) ≤ 8) := by
      unfold rightA
      have : l.all mayOk = true := by rw [List.all_eq_true]; intro x hx; exact hall x (by rw [hi', List.take_length]; exact hx)
      rw [this, Bool.true_and, decide_eq_decide]; omega
    simp only [int, bool, hlt2, e, FinR, evRes, evRVs, evRV, am, simprocAttr, tys]
    exact ⟨_, [], [], rfl, Ent.plain rfl rfl rfl trivial rfl, rfl, rfl⟩
end Go.Proofs.Ytkadildabhkocaa
