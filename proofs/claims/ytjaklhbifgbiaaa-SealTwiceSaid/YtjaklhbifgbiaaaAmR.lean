/- Proved here: a part of an abstract machine for the walks of this program, and that it tells the truth about the model. No condition. -/
import Derived.Test.YtjaklhbifgbiaaaAmQ
set_option linter.unusedSimpArgs false
set_option linter.unusedVariables false
namespace Go.AM
open Go

/-! ## code -/
/-- a region whose order is drawn: whatever the order, it comes to one state -/
def aregD (P : Program) (ops : Array Oper) (Q : St → Prop) (s : St) : Prop :=
  ∃ s', Q s' ∧ ∀ (B : Base) (a : Act) (w : World) (id : Nat) (Qx : Exit → Act → World → Prop), Sat B s a w → (∀ a w, Sat B s' a w → Qx .normal a w) → (Code.region id ops true).wp P Qx a w

def thenQ (K : St → Prop) (Q : Exit → St → Prop) : Exit → St → Prop
  | .normal, s => K s
  | e, s => Q e s

def blockQ (id : Nat) (Q : Exit → St → Prop) : Exit → St → Prop
  | .exit id', s => if id' = id then Q .normal s else Q (.exit id') s
  | e, s => Q e s

/-- a loop's own words: what holds at each round's head, and how far it is from its end -/
def aloop (body : (Exit → St → Prop) → St → Prop) (Q : Exit → St → Prop) (s : St) : Prop :=
  ∃ (ι : Type) (inv : ι → St) (μ : ι → Nat), (∃ i, ∀ B a w, Sat B s a w → Sat B (inv i) a w) ∧
    ∀ i, body (thenQ (fun s' => ∃ j, (∀ B a w, Sat B s' a w → Sat B (inv j) a w) ∧ μ j < μ i) Q) (inv i)

def awp (P : Program) : Code → (Exit → St → Prop) → St → Prop
  | .skip, Q, s => Q .normal s
  | .region _ ops draw, Q, s => if draw then aregD P ops (Q .normal) s else aops P ops (Q .normal) ops.toList s
  | .seq x y, Q, s => awp P x (thenQ (awp P y Q) Q) s
  | .cond c x y, Q, s => match ev s.regs c with
    | .d (.lit (.bool t)) => if t = true then awp P x Q s else awp P y Q s
    | _ => False
  | .block id c, Q, s => awp P c (blockQ id Q) s
  | .loop c, Q, s => aloop (awp P c) Q s
  | .exit id, Q, s => Q (.exit id) s
  | .ret, Q, s => Q .ret s
  | _, _, _ => False

def liftQ (B : Base) (Q : Exit → St → Prop) : Exit → Act → World → Prop := fun e a w => ∃ s, Sat B s a w ∧ Q e s

theorem wp_loop_ix {P : Program} {c : Code} {ι : Type} (I : ι → Act → World → Prop) (μ : ι → Nat) {Q : Exit → Act → World → Prop} {i : ι} {a : Act} {w : World} (h₀ : I i a w)
    (round : ∀ i a w, I i a w → c.wp P (Exit.then (fun a' w' => ∃ j, I j a' w' ∧ μ j < μ i) Q) a w) : (Code.loop c).wp P Q a w := by
  intro b k cs
  have key : ∀ n i a w, μ i = n → I i a w →
      ∃ e a' w', Q e a' w' ∧ Arrives P (lone (b.at a (.code c :: .inLoop c :: k)) cs w) b k cs e a' w' := by
    intro n
    induction n using Nat.strongRecOn with
    | _ n ih =>
      intro i a w hn hI
      obtain ⟨e, a₁, w₁, hq, harr⟩ := round i a w hI b (.inLoop c :: k) cs
      cases e with
      | normal =>
        obtain ⟨j, hI₁, hlt⟩ := hq
        obtain ⟨e₂, a₂, w₂, hq₂, harr₂⟩ := ih (μ j) (hn ▸ hlt) j a₁ w₁ rfl hI₁
        exact ⟨e₂, a₂, w₂, hq₂, .of_steps (Steps.trans harr (.one step_inLoop)) harr₂⟩
      | exit id => exact ⟨_, a₁, w₁, hq, .pass (x := .inLoop c) rfl (fun _ _ => .inl (by simp)) harr⟩
      | goto l => exact ⟨_, a₁, w₁, hq, .pass (x := .inLoop c) rfl (fun _ _ => .inl (by simp)) harr⟩
      | ret => exact ⟨_, a₁, w₁, hq, .pass (x := .inLoop c) rfl (fun _ _ => .inl (by simp)) harr⟩
      | panic ch => exact ⟨_, a₁, w₁, hq, .pass (x := .inLoop c) rfl (fun _ _ => .inl (by simp)) harr⟩
      | outgrown => exact ⟨_, a₁, w₁, hq, .pass (x := .inLoop c) rfl (fun _ _ => .inl (by simp)) harr⟩
  obtain ⟨e, a', w', hq, harr⟩ := key _ i a w rfl h₀
  exact ⟨e, a', w', hq, .of_steps (.one step_loop) harr⟩

theorem awp_sound {P : Program} {B : Base} : ∀ (c : Code) (Q : Exit → St → Prop) (s : St) (a : Act) (w : World), awp P c Q s → Sat B s a w → c.wp P (liftQ B Q) a w
  | .skip, Q, s, a, w, h, hs => wp_skip ⟨s, hs, h⟩
  | .region id ops draw, Q, s, a, w, h, hs => by
    unfold awp at h
    cases draw with
    | true =>
      obtain ⟨s', h1, h2⟩ := h
      exact h2 B a w id _ hs fun a w hs' => ⟨s', hs', h1⟩
    | false =>
      refine wp_region_list ?_
      exact aops_sound (fun s a w hq hs => ⟨s, hs, hq⟩) ops.toList s a w h hs
  | .seq x y, Q, s, a, w, h, hs => by
    unfold awp at h
    refine wp_seq (wp_mono (awp_sound x _ s a w h hs) fun e a w ⟨s', hs', hq⟩ => ?_)
    cases e with
    | normal => exact awp_sound y Q s' a w hq hs'
    | _ => exact ⟨s', hs', hq⟩
  | .cond c x y, Q, s, a, w, h, hs => by
    unfold awp at h
    split at h
    · rename_i t hc
      obtain ⟨β, X, hr⟩ := hs
      refine wp_cond (t := t) (hr.lit hc) ?_
      cases t
      · exact awp_sound y Q s a w h ⟨β, X, hr⟩
      · exact awp_sound x Q s a w h ⟨β, X, hr⟩
    · exact h.elim
  | .block id c, Q, s, a, w, h, hs => by
    unfold awp at h
    refine wp_block (wp_mono (awp_sound c _ s a w h hs) fun e a w ⟨s', hs', hq⟩ => ?_)
    cases e with
    | exit id' =>
      simp only [Exit.inBlock, blockQ] at hq ⊢
      split at hq <;> (rename_i hid; simp only [hid, if_true, if_false]) <;> exact ⟨s', hs', hq⟩
    | _ => exact ⟨s', hs', hq⟩
  | .loop c, Q, s, a, w, h, hs => by
    unfold awp at h
    obtain ⟨ι, inv, μ, ⟨i0, h0⟩, hround⟩ := h
    refine wp_loop_ix (fun i a w => Sat B (inv i) a w) μ (h0 B a w hs) fun i a w hi => ?_
    refine wp_mono (awp_sound c _ (inv i) a w (hround i) hi) fun e a w ⟨s', hs', hq⟩ => ?_
    cases e with
    | normal =>
      obtain ⟨j, hj, hlt⟩ := hq
      exact ⟨j, hj B a w hs', hlt⟩
    | _ => exact ⟨s', hs', hq⟩
  | .exit id, Q, s, a, w, h, hs => wp_exit ⟨s, hs, h⟩
  | .ret, Q, s, a, w, h, hs => wp_ret ⟨s, hs, h⟩
  | .label _, _, _, _, _, h, _ => (h : False).elim
  | .goto _, _, _, _, _, h, _ => (h : False).elim
  | .scope _, _, _, _, _, h, _ => (h : False).elim
  | .refuse _, _, _, _, _, h, _ => (h : False).elim
  | .rangeFunc _ _ _ _, _, _, _, _, h, _ => (h : False).elim
end Go.AM
