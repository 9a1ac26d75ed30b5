/- Proved here: a part of an abstract machine for the walks of this program, and that it tells the truth about the model. No condition. -/
import Derived.Test.YtjaklhbifgbiaaaAmO
set_option linter.unusedSimpArgs false
set_option linter.unusedVariables false
namespace Go.AM
open Go

/-! ## to freeze rows -/
mutual
def frz (rows : Rows) (F : List Nat) : PV → PV
  | .d x => .d x
  | .own i => if i ∈ F then (match rows i with | .own sz el => .d (.sl sz el) | _ => .any) else .own i
  | .win i off m => if i ∈ F then (match rows i with | .own sz el => .d (.sl sz ((el.drop off).take m)) | _ => .any) else .win i off m
  | .ptr i off => if i ∈ F then .any else .ptr i off
  | .eptr i k c => if i ∈ F then .any else .eptr i k c
  | .iptr cs => .iptr cs
  | .clo fn f c => .clo fn (frzs rows F f) (frzs rows F c)
  | .ifc t x => .ifc t (frz rows F x)
  | .agg ps => mkAgg (frzs rows F ps)
  | .tup ps => .tup (frzs rows F ps)
  | .any => .any
def frzs (rows : Rows) (F : List Nat) : List PV → List PV
  | [] => []
  | p :: ps => frz rows F p :: frzs rows F ps
end

def frzRow (rows : Rows) (F : List Nat) : Row → Row
  | .box cells => .box (frzs rows F cells)
  | r => r

def frzRows (rows : Rows) (F : List Nat) : Rows := fun i => if i ∈ F then .dead else frzRow rows F (rows i)

def frzX (rows : Rows) (β : Nat → Loc) (X : Nat → Prop) (F : List Nat) : Nat → Prop := fun b => X b ∧ ∀ i ∈ F, rblk (β i) (rows i) ≠ some b

theorem repss_X {w : World} {X X' : Nat → Prop} (h : ∀ b, X' b → X b) (sz : Nat) (el : List (List DV)) (vs : List Value) (hr : repss w X sz el vs) : repss w X' sz el vs :=
  repss_mono (fun _ _ hx => ⟨rfl, fun hx' => hx (h _ hx')⟩) sz el vs hr

theorem viewX_ok {B : Base} {β : Nat → Loc} {X : Nat → Prop} {w : World} {rows : Rows} {nx : Nat} {F : List Nat} {i : Nat} (hm : Mem B β X w rows nx) (hi : i ∈ F) {p : PV} {v : Value} {sz : Nat} {el : List (List DV)}
    (hp : (p = .own i ∨ ∃ off m, p = .win i off m)) (h : repP rows β w X p v) (hv : viewOf rows p = some (sz, el)) : rep w (frzX rows β X F) (.sl sz el) v := by
  obtain ⟨a, cap, vs, h1, h2, h3, h4, h5⟩ := viewOf_ok hm h hv
  unfold rep
  refine ⟨a, cap, vs, h1, h2, h3, repss_X (fun b hb => hb.1) _ _ _ h4, fun hne => ?_⟩
  obtain ⟨b, off, g1, g2⟩ := h5 hne
  refine ⟨b, off, g1, fun hx => ?_, g2⟩
  -- b is the row's block
  have key : ∀ sz' el', rows i = .own sz' el' → ∃ b' off', (β i).a = some ⟨b', off', none⟩ ∧ ((β i).cap ≠ 0 → rblk (β i) (rows i) = some b') := fun sz' el' hr => by
    have hrow := hm.ok i
    rw [hr] at hrow
    obtain ⟨r1, r2, r3⟩ := hrow
    rcases r3 with ⟨r3, rfl⟩ | ⟨b', cs, e, fr, r3, r4, _⟩
    · exfalso
      have hel : el = [] := by
        rcases hp with rfl | ⟨off, m, rfl⟩ <;> simp [viewOf, hr] at hv
        · exact hv.2
        · exact hv.2
      subst hel
      unfold repss at h4
      exact hne h4
    · exact ⟨b', 0, r4, fun _ => by rw [hr]; simp [rblk, r4]; omega⟩
  have hrow' : ∃ sz' el', rows i = .own sz' el' := by
    rcases hp with rfl | ⟨off, m, rfl⟩ <;> (unfold viewOf at hv; simp only at hv; split at hv <;> first | exact ⟨_, _, by assumption⟩ | cases hv)
  obtain ⟨sz', el', hr⟩ := hrow'
  obtain ⟨b', off', k1, k2⟩ := key sz' el' hr
  have hcap : (β i).cap ≠ 0 := by
    have hrow := hm.ok i
    rw [hr] at hrow
    obtain ⟨r1, r2, r3⟩ := hrow
    intro h0
    rcases r3 with ⟨r3, rfl⟩ | ⟨b', cs, e, fr, r3, r4, _⟩
    · have hel : el = [] := by
        rcases hp with rfl | ⟨off, m, rfl⟩ <;> simp [viewOf, hr] at hv
        · exact hv.2
        · exact hv.2
      subst hel
      unfold repss at h4
      exact hne h4
    · omega
  have hbb : b = b' := by
    rcases hp with rfl | ⟨o', m, rfl⟩
    · unfold repP at h
      have := h sz' el' hr
      rw [h1] at this
      simp only [Value.slice.injEq] at this
      rw [g1, k1] at this
      simpa using congrArg Addr.block (Option.some.inj this.1)
    · unfold repP at h
      have := (h sz' el' hr).2
      rw [h1] at this
      simp only [Value.slice.injEq] at this
      rw [g1, k1] at this
      have h6 := this.1
      split at h6
      · simpa using congrArg Addr.block (Option.some.inj h6)
      · simp only [Option.map_some, Option.some.injEq] at h6
        have := congrArg Addr.block h6
        simpa [Addr.add] using (by unfold Addr.add at this; split at this <;> simpa using this)
  subst hbb
  exact hx.2 i hi (k2 hcap)

mutual
theorem repP_frz {B : Base} {β : Nat → Loc} {X : Nat → Prop} {w : World} {rows : Rows} {nx : Nat} {F : List Nat} (hm : Mem B β X w rows nx) : ∀ (p : PV) (v : Value), repP rows β w X p v →
    repP (frzRows rows F) β w (frzX rows β X F) (frz rows F p) v
  | .d x, v, h => by
    unfold frz; unfold repP at *
    exact rep_mono (fun _ _ hx => ⟨rfl, fun hx' => hx hx'.1⟩) x v h
  | .own i, v, h => by
    unfold frz
    split
    · rename_i hi
      split
      · rename_i sz el hr
        unfold repP
        exact viewX_ok hm hi (.inl rfl) h (by simp [viewOf, hr])
      · simp [repP]
    · rename_i hi
      unfold repP at *
      intro sz el hr
      simp only [frzRows, hi, if_false] at hr
      cases hri : rows i with
      | own sz' el' => rw [hri] at hr; simp only [frzRow, Row.own.injEq] at hr; obtain ⟨rfl, rfl⟩ := hr; exact h _ _ hri
      | _ => rw [hri] at hr; simp [frzRow] at hr
  | .win i off m, v, h => by
    unfold frz
    split
    · rename_i hi
      split
      · rename_i sz el hr
        unfold repP
        exact viewX_ok hm hi (.inr ⟨off, m, rfl⟩) h (by simp [viewOf, hr])
      · simp [repP]
    · rename_i hi
      unfold repP at *
      intro sz el hr
      simp only [frzRows, hi, if_false] at hr
      cases hri : rows i with
      | own sz' el' => rw [hri] at hr; simp only [frzRow, Row.own.injEq] at hr; obtain ⟨rfl, rfl⟩ := hr; exact h _ _ hri
      | _ => rw [hri] at hr; simp [frzRow] at hr
  | .ptr i off, v, h => by
    unfold frz
    split
    · simp [repP]
    · rename_i hi
      unfold repP at *
      intro hr
      refine h fun h0 => hr ?_
      simp [frzRows, hi, h0, frzRow]
  | .eptr i k c, v, h => by
    unfold frz
    split
    · simp [repP]
    · rename_i hi
      unfold repP at *
      intro sz el hr
      simp only [frzRows, hi, if_false] at hr
      cases hri : rows i with
      | own sz' el' => rw [hri] at hr; simp only [frzRow, Row.own.injEq] at hr; obtain ⟨rfl, rfl⟩ := hr; exact h _ _ hri
      | _ => rw [hri] at hr; simp [frzRow] at hr
  | .iptr cs, v, h => by
    unfold frz; unfold repP at *
    obtain ⟨b, off, vs, h1, h2, h3, h4, h5⟩ := h
    exact ⟨b, off, vs, h1, reps_mono (fun _ _ hx => ⟨rfl, fun hx' => hx hx'.1⟩) cs vs h2, h3, fun hx => h4 hx.1, h5⟩
  | .clo fn f c, v, h => by
    unfold frz; unfold repP at *
    obtain ⟨fs, cs, h1, h2, h3⟩ := h
    exact ⟨fs, cs, h1, repPs_frz hm f fs h2, repPs_frz hm c cs h3⟩
  | .ifc t x, v, h => by
    unfold frz; unfold repP at *
    obtain ⟨u, h1, h2⟩ := h
    exact ⟨u, h1, repP_frz hm x u h2⟩
  | .agg ps, v, h => by
    unfold frz; unfold repP at h
    obtain ⟨vs, h1, h2, h3⟩ := h
    subst h1
    exact mkAgg_ok (repPs_frz hm ps vs h2) h3
  | .tup ps, v, h => by
    unfold frz; unfold repP at *
    obtain ⟨vs, h1, h2⟩ := h
    exact ⟨vs, h1, repPs_frz hm ps vs h2⟩
  | .any, v, h => by simp [frz, repP]
theorem repPs_frz {B : Base} {β : Nat → Loc} {X : Nat → Prop} {w : World} {rows : Rows} {nx : Nat} {F : List Nat} (hm : Mem B β X w rows nx) : ∀ (ps : List PV) (vs : List Value), repPs rows β w X ps vs →
    repPs (frzRows rows F) β w (frzX rows β X F) (frzs rows F ps) vs
  | [], vs, h => by unfold frzs; simpa [repPs] using h
  | c :: cs, vs, h => by
    unfold frzs; unfold repPs at *
    obtain ⟨u, us, h1, h2, h3⟩ := h
    exact ⟨u, us, h1, repP_frz hm c u h2, repPs_frz hm cs us h3⟩
end

mutual
theorem Sc_frz {S : Nat → Prop} {rows : Rows} {F : List Nat} : ∀ (p : PV), Sc S p → Sc S (frz rows F p)
  | .d _, _ => trivial
  | .own i, h => by unfold frz; split; · split <;> trivial
                    · exact h
  | .win i off m, h => by unfold frz; split; · split <;> trivial
                          · exact h
  | .ptr i off, h => by unfold frz; split; · trivial
                        · exact h
  | .eptr i k c, h => by unfold frz; split; · trivial
                         · exact h
  | .iptr _, _ => trivial
  | .clo _ f c, h => by unfold frz; exact ⟨Scs_frz f h.1, Scs_frz c h.2⟩
  | .ifc _ x, h => by unfold frz; exact Sc_frz x h
  | .agg ps, h => by unfold frz; exact Sc_mkAgg (Scs_frz ps h)
  | .tup ps, h => by unfold frz; exact Scs_frz ps h
  | .any, _ => trivial
theorem Scs_frz {S : Nat → Prop} {rows : Rows} {F : List Nat} : ∀ (ps : List PV), Scs S ps → Scs S (frzs rows F ps)
  | [], _ => trivial
  | p :: ps, h => by unfold frzs; exact ⟨Sc_frz p h.1, Scs_frz ps h.2⟩
end

def ownOrDead : Row → Bool | .own _ _ => true | .dead => true | _ => false

theorem Mem.freeze {B : Base} {β : Nat → Loc} {X : Nat → Prop} {w : World} {rows : Rows} {nx : Nat} (hm : Mem B β X w rows nx) (F : List Nat) : Mem B β (frzX rows β X F) w (frzRows rows F) nx := by
  have hbl : ∀ i b, rblk (β i) (frzRows rows F i) = some b → i ∉ F ∧ rblk (β i) (rows i) = some b := fun i b hb => by
    by_cases hi : i ∈ F
    · simp [frzRows, hi, rblk] at hb
    · refine ⟨hi, ?_⟩
      simp only [frzRows, hi, if_false] at hb
      cases hri : rows i <;> rw [hri] at hb <;> exact hb
  refine ⟨fun i => ?_, fun i j b hi hj => hm.inj i j b (hbl i b hi).2 (hbl j b hj).2, fun i hi => ?_, fun i cells hc => ?_, hm.os, hm.tape, hm.output, hm.size, hm.keep, fun b hb hx => hm.xs b hb hx.1,
    fun i b hi hlt => hm.lent i b (hbl i b hi).2 hlt, fun b hb h0 hl => ⟨hm.fx b hb h0 hl, fun i _ hi => hl (hm.lent i b hi hb)⟩, hm.kln, fun i hi => ?_⟩
  · by_cases hi : i ∈ F
    · simp [frzRows, hi, rowOk]
    · have hX : ∀ b, rblk (β i) (rows i) = some b → frzX rows β X F b := fun b hb =>
        ⟨(rowOk_blk (hm.ok i) hb).2, fun j hj hjb => hi (by rw [hm.inj i j b hb hjb]; exact hj)⟩
      simp only [frzRows, hi, if_false]
      have hrow := hm.ok i
      cases hri : rows i with
      | dead => trivial
      | box cells =>
        rw [hri] at hrow
        obtain ⟨b, cs, e, fr, h1, h2, h3, h4, h5, h6⟩ := hrow
        exact ⟨b, cs, e, fr, h1, hX b (by rw [hri]; simp [rblk, h1]), h3, h4, repPs_frz hm cells _ h5, h6⟩
      | own sz el =>
        rw [hri] at hrow
        obtain ⟨h1, h2, h3⟩ := hrow
        refine ⟨h1, h2, ?_⟩
        rcases h3 with h3 | ⟨b, cs, e, fr, h3, h4, h5, h6, h7, h8, h9⟩
        · exact .inl h3
        · exact .inr ⟨b, cs, e, fr, h3, h4, hX b (by rw [hri]; simp [rblk, h4]; omega), h6, h7, h8, repss_X (fun b hb => hb.1) _ _ _ h9⟩
      | iter s pos =>
        rw [hri] at hrow
        obtain ⟨b, h1, h2, h3⟩ := hrow
        exact ⟨b, h1, hX b (by rw [hri]; simp [rblk, h1]), h3⟩
  · by_cases hF : i ∈ F
    · simp [frzRows, hF]
    · simp [frzRows, hF, hm.dead i hi, frzRow]
  · by_cases hF : i ∈ F
    · simp [frzRows, hF] at hc
    · simp only [frzRows, hF, if_false] at hc
      cases hri : rows i with
      | box cells' => rw [hri] at hc; simp only [frzRow, Row.box.injEq] at hc; subst hc; exact Scs_frz _ (hm.scr i cells' hri)
      | _ => rw [hri] at hc; simp [frzRow] at hc
  · obtain ⟨h1, h2⟩ := hm.lk i hi
    by_cases hF : i ∈ F
    · simp only [frzRows, hF, if_true]
      exact ⟨by cases B.rows0 i <;> simp [RowC], fun hd => absurd rfl hd⟩
    · simp only [frzRows, hF, if_false]
      cases hri : rows i with
      | box cells => rw [hri] at h1 h2; exact ⟨h1.trans (by simp [RowC, frzRow]), fun _ => h2 (by simp)⟩
      | _ => rw [hri] at h1 h2; exact ⟨h1, h2⟩
end Go.AM
