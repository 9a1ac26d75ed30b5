/- Proved here: what functions of the program compute, and plain laws. No condition. -/
import Derived.Test.YtldckdbdgbpmpaaPt
set_option linter.unusedSimpArgs false
set_option linter.unusedVariables false
namespace Go.Proofs.Ytldckdbdgbpmpaa
open Go Go.AM

def oldW (m sz : Nat) (el : List (List DV)) : List Row := [.box [.win 1 0 m], .own sz el]
def newW (m sz : Nat) (el : List (List DV)) : List Row := [.box [.own 2], .dead, .own sz (el.take m)]
/-- the row of a slice that was cut short is a shorter row -/
theorem AFun.trunc {f : Nat} {ps : List PV} {lent : List Row} {r : PV} {sz m : Nat} {el : List (List DV)} (hmle : m ≤ el.length) (hl : lent.length ≤ 2) (h : AFun Try.prog f ps lent r (oldW m sz el))
    (hr : ∀ rows rows' β β' w X v, repP rows β w X r v → repP rows' β' w X r v) (hsc : Sc (· < 3) r) : AFun Try.prog f ps lent r (newW m sz el) := by
  intro B β X w vs hk h0 hm hp
  refine (h B β X w vs hk h0 hm hp).mono ?_
  rintro e w' ⟨v, β', X', h1, h2, h3, h4⟩
  have hb : ∀ i, i ≠ 2 → upd β' 2 (β' 1) i = β' i := fun i hi => upd_ne _ _ hi
  have hb2 : upd β' 2 (β' 1) 2 = β' 1 := upd_same _ _ _
  have r0 : rblk (upd β' 2 (β' 1) 0) (lrows (newW m sz el) 0) = rblk (β' 0) (lrows (oldW m sz el) 0) := by rw [hb 0 (by decide)]; rfl
  have r2 : rblk (upd β' 2 (β' 1) 2) (lrows (newW m sz el) 2) = rblk (β' 1) (lrows (oldW m sz el) 1) := by rw [hb2]; rfl
  have rx : ∀ i, i ≠ 0 → i ≠ 2 → rblk (upd β' 2 (β' 1) i) (lrows (newW m sz el) i) = none := fun i h0 h2 => by
    match i, h0, h2 with
    | 1, _, _ => rfl
    | i + 3, _, _ => rfl
  have bl : ∀ i b, rblk (upd β' 2 (β' 1) i) (lrows (newW m sz el) i) = some b → ∃ j, rblk (β' j) (lrows (oldW m sz el) j) = some b ∧ (i = 0 ∧ j = 0 ∨ i = 2 ∧ j = 1) := fun i b hi => by
    by_cases i0 : i = 0
    · subst i0; rw [r0] at hi; exact ⟨0, hi, .inl ⟨rfl, rfl⟩⟩
    · by_cases i2 : i = 2
      · subst i2; rw [r2] at hi; exact ⟨1, hi, .inr ⟨rfl, rfl⟩⟩
      · rw [rx i i0 i2] at hi; cases hi
  refine ⟨v, upd β' 2 (β' 1), X', h1, ⟨fun i => ?_, fun i j b hi hj => ?_, fun i hi => ?_, fun i => ?_, h2.os, h2.tape, h2.output, h2.size, h2.keep, h2.xs, fun i b hi hb' => ?_, h2.fx, ?_, fun i hi => ?_⟩, hr _ _ _ _ _ _ _ h3, hsc⟩
  · match i with
    | 0 =>
      have h := h2.ok 0
      rw [hb 0 (by decide)]
      show rowOk _ _ _ _ _ (.box [.own 2])
      have h' : rowOk (lrows (oldW m sz el)) β' w' X' (β' 0) (.box [.win 1 0 m]) := h
      unfold rowOk at h' ⊢
      obtain ⟨b, cs, e', fr, a1, a2, a3, a4, a5, a6, a7⟩ := h'
      refine ⟨b, cs, e', fr, a1, a2, a3, a4, ?_, a6, a7⟩
      unfold repPs at a5 ⊢
      obtain ⟨u, us, e1, e2, e3⟩ := a5
      refine ⟨u, us, e1, ?_, ?_⟩
      · unfold repP at e2 ⊢
        obtain ⟨e2, _⟩ := e2
        obtain ⟨_, e4⟩ := e2 sz el rfl
        refine ⟨fun sz' el' he => ?_, fun cells he => by cases he⟩
        cases he
        rw [hb2, e4]
        have ea : ∀ a : Addr, a.add 0 = a := fun a => rfl
        have em : (β' 1).a.map (fun x => x.add (0 * sz)) = (β' 1).a := by cases (β' 1).a <;> simp [ea]
        rw [em, List.length_take, Nat.min_eq_left hmle]
        split <;> rfl
      · unfold repPs at e3 ⊢; exact e3
    | 1 => trivial
    | 2 =>
      have h := h2.ok 1
      rw [hb2]
      have h' : rowOk (lrows (oldW m sz el)) β' w' X' (β' 1) (.own sz el) := h
      show rowOk _ _ _ _ _ (.own sz (el.take m))
      unfold rowOk at h' ⊢
      obtain ⟨a1, a2, a3⟩ := h'
      refine ⟨by rw [List.length_take]; omega, a2, ?_⟩
      rcases a3 with ⟨a3, a4⟩ | ⟨b, cs, e', fr, c0, c1, c2, c3, c4, c5, c6⟩
      · left; rw [a4]; exact ⟨a3, by simp⟩
      · refine .inr ⟨b, cs, e', fr, c0, c1, c2, c3, c4, c5, ?_⟩
        have := repss_take m c6
        rw [List.take_take] at this
        rw [List.length_take, Nat.min_eq_left hmle]
        rwa [Nat.min_eq_left (Nat.mul_le_mul_right sz hmle)] at this
    | i + 3 => trivial
  · obtain ⟨i', q1, q2⟩ := bl i b hi
    obtain ⟨j', q3, q4⟩ := bl j b hj
    have := h2.inj i' j' b q1 q3
    omega
  · obtain ⟨k, rfl⟩ : ∃ k, i = k + 3 := ⟨i - 3, by have : 3 ≤ i := hi; omega⟩
    rfl
  · match i with
    | 0 => exact ⟨(by show (2 : Nat) < 3; omega), trivial⟩
    | 1 => trivial
    | 2 => trivial
    | k + 3 => trivial
  · obtain ⟨j, q1, _⟩ := bl i b hi
    exact h2.lent j b q1 hb'
  · have := hk; show B.kl ≤ 3; omega
  · match i with
    | 0 =>
      have := h2.lk 0 hi
      refine ⟨?_, fun _ => ?_⟩
      · have h := this.1
        revert h
        cases B.rows0 0 <;> exact id
      rw [hb 0 (by decide)]
      exact this.2 (by simp [oldW, lrows])
    | 1 => exact ⟨by cases B.rows0 1 <;> trivial, fun h => absurd rfl h⟩
    | i + 2 => omega
end Go.Proofs.Ytldckdbdgbpmpaa
