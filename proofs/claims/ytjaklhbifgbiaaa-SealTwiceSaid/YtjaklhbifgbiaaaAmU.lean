/- Proved here: a part of an abstract machine for the walks of this program, and that it tells the truth about the model. No condition. -/
import Derived.Test.YtjaklhbifgbiaaaAmT
set_option linter.unusedSimpArgs false
set_option linter.unusedVariables false
namespace Go.AM
open Go

theorem argOk_rep {B : Base} {β : Nat → Loc} {X : Nat → Prop} {w : World} {rows : Rows} {nx : Nat} {T : List Nat} {σ : Nat → Nat} {lent : List Row} (hm : Mem B β X w rows nx)
    (hr : ∀ i, RowIs σ (rows (σ i)) (lrows lent i)) {p' p : PV} {v : Value} (h : argOk rows T σ p' p) (hp : repP rows β w X p' v) :
    repP (lrows lent) (fun i => β (σ i)) w (frzX rows β X T) p v := by
  have hkx : ∀ q u, repP (lrows lent) (fun i => β (σ i)) w X q u → repP (lrows lent) (fun i => β (σ i)) w (frzX rows β X T) q u := fun q u hq =>
    repP_mono (S := fun _ => True) (fun _ _ hx => ⟨rfl, fun hx' => hx hx'.1⟩) (fun i _ => ⟨RowC.refl _, fun _ => rfl⟩) q u (Sc_true q) hq
  rcases h with rfl | h
  · exact hkx _ _ (repP_unren hr p v hp)
  · split at h
    · rename_i sz el
      unfold repP
      split at h
      · rename_i i
        exact viewX_ok hm h.2 (.inl rfl) hp (by simp [viewOf, h.1])
      · rename_i i off m
        split at h
        · rename_i sz' el' hri
          obtain ⟨rfl, rfl, hi⟩ := h
          exact viewX_ok hm hi (.inr ⟨off, m, rfl⟩) hp (by simp [viewOf, hri])
        · exact h.elim
      · subst h
        unfold repP rep at hp
        subst hp
        unfold rep
        exact ⟨none, 0, [], rfl, by simp, by simp, by simp [repss], fun h => absurd rfl h⟩
      · exact h.elim
    · exact h.elim
where
  Sc_true : ∀ p : PV, Sc (fun _ => True) p := fun p => by
    have aux : (∀ p : PV, Sc (fun _ => True) p) ∧ (∀ ps : List PV, Scs (fun _ => True) ps) := by
      constructor
      · intro p
        exact PV.rec (motive_1 := fun p => Sc (fun _ => True) p) (motive_2 := fun ps => Scs (fun _ => True) ps)
          (fun _ => trivial) (fun _ => trivial) (fun _ _ _ => trivial) (fun _ _ => trivial) (fun _ _ _ => trivial) (fun _ => trivial)
          (fun _ _ _ h1 h2 => ⟨h1, h2⟩) (fun _ _ h => h) (fun _ h => h) (fun _ h => h) trivial trivial (fun _ _ h1 h2 => ⟨h1, h2⟩) p
      · intro ps
        induction ps with
        | nil => trivial
        | cons p ps ih => exact ⟨PV.rec (motive_1 := fun p => Sc (fun _ => True) p) (motive_2 := fun ps => Scs (fun _ => True) ps)
          (fun _ => trivial) (fun _ => trivial) (fun _ _ _ => trivial) (fun _ _ => trivial) (fun _ _ _ => trivial) (fun _ => trivial)
          (fun _ _ _ h1 h2 => ⟨h1, h2⟩) (fun _ _ h => h) (fun _ h => h) (fun _ h => h) trivial trivial (fun _ _ h1 h2 => ⟨h1, h2⟩) p, ih⟩
    exact aux.1 p

theorem argsOk_rep {B : Base} {β : Nat → Loc} {X : Nat → Prop} {w : World} {rows : Rows} {nx : Nat} {T : List Nat} {σ : Nat → Nat} {lent : List Row} (hm : Mem B β X w rows nx)
    (hr : ∀ i, RowIs σ (rows (σ i)) (lrows lent i)) : ∀ {ps' ps : List PV} {vs : List Value}, argsOk rows T σ ps' ps → repPs rows β w X ps' vs →
    repPs (lrows lent) (fun i => β (σ i)) w (frzX rows β X T) ps vs
  | [], [], vs, _, hp => by simpa [repPs] using hp
  | p' :: ps', p :: ps, vs, h, hp => by
    unfold repPs at hp ⊢
    obtain ⟨u, us, h1, h2, h3⟩ := hp
    exact ⟨u, us, h1, argOk_rep hm hr h.1 h2, argsOk_rep hm hr h.2 h3⟩
  | [], _ :: _, _, h, _ => h.elim
  | _ :: _, [], _, h, _ => h.elim

mutual
theorem Sc_unren {S : Nat → Prop} {σ : Nat → Nat} {m : Nat} (hσ : ∀ j, S (σ j) → j < m) : ∀ p, Sc S (ren σ p) → Sc (· < m) p
  | .d _, _ => trivial
  | .own i, h => hσ i h
  | .win i _ _, h => hσ i h
  | .ptr i _, h => hσ i h
  | .eptr i _ _, h => hσ i h
  | .iptr _, _ => trivial
  | .clo _ f c, h => ⟨Scs_unren hσ f h.1, Scs_unren hσ c h.2⟩
  | .ifc _ x, h => Sc_unren hσ x h
  | .agg ps, h => Scs_unren hσ ps h
  | .tup ps, h => Scs_unren hσ ps h
  | .any, _ => trivial
theorem Scs_unren {S : Nat → Prop} {σ : Nat → Nat} {m : Nat} (hσ : ∀ j, S (σ j) → j < m) : ∀ ps, Scs S (rens σ ps) → Scs (· < m) ps
  | [], _ => trivial
  | p :: ps, h => ⟨Sc_unren hσ p h.1, Scs_unren hσ ps h.2⟩
end

theorem renRow_dead {σ : Nat → Nat} {r : Row} : renRow σ r = .dead ↔ r = .dead := by cases r <;> simp [renRow]

theorem rblk_ren {σ : Nat → Nat} {r : Row} {l : Loc} : rblk l (renRow σ r) = rblk l r := by cases r <;> rfl

theorem RowC_ren {σ : Nat → Nat} {r r2 : Row} (h : RowC r r2) : RowC (renRow σ r) (renRow σ r2) := by
  cases r <;> cases r2 <;> simp_all [RowC, renRow]

set_option maxHeartbeats 1000000 in
/-- THE FRAME: a contract in the callee's numbers serves in the caller's -/
theorem AFun.call {P : Program} {f : FuncId} {ps : List PV} {lent : List Row} {r : PV} {out : List Row} (h : AFun P f ps lent r out) {rows : Rows} {nx : Nat} (ι T : List Nat) {ps' : List PV}
    (hι : ι.length = lent.length) (hout : lent.length ≤ out.length) (hnd : ι.Nodup) (hlt : ∀ i ∈ ι, i < nx) (hargs : argsOk rows T (sig ι nx) ps' ps) (hlent : lentOk rows T (sig ι nx) 0 lent)
    (hT : T = [] ∨ (nvP r ∧ ∀ row ∈ out, nvRow row)) :
    ACall P f ps' rows nx (fun r' rows' nx' => r' = ren (sig ι nx) r ∧ rows' = updRows rows (plc (sig ι nx) 0 out) ∧ nx' = nx + (out.length - lent.length)) := by
  intro B β X w vs hm hp _
  have hsig1 : ∀ j, j < lent.length → sig ι nx j < nx := fun j hj => by
    unfold sig; rw [if_pos (by omega)]
    refine hlt _ ?_
    rw [List.getD_eq_getElem?_getD, List.getElem?_eq_getElem (by omega)]
    exact List.getElem_mem _
  have hsig2 : ∀ j, lent.length ≤ j → sig ι nx j = nx + (j - lent.length) := fun j hj => by
    unfold sig; rw [if_neg (by omega), hι]
  have hinj : ∀ a b, sig ι nx a = sig ι nx b → a = b := fun a b he => by
    rcases Nat.lt_or_ge a lent.length with ha | ha <;> rcases Nat.lt_or_ge b lent.length with hb | hb
    · unfold sig at he
      rw [if_pos (by omega), if_pos (by omega), List.getD_eq_getElem?_getD, List.getD_eq_getElem?_getD] at he
      refine (List.getElem?_inj (show a < ι.length by omega) hnd).1 ?_
      rw [List.getElem?_eq_getElem (by omega), List.getElem?_eq_getElem (by omega)] at he ⊢
      simpa using he
    · have := hsig1 a ha; have := hsig2 b hb; omega
    · have := hsig1 b hb; have := hsig2 a ha; omega
    · have := hsig2 a ha; have := hsig2 b hb; omega
  have hl : ∀ j, j < lent.length → rows (sig ι nx j) = renRow (sig ι nx) (lrows lent j) ∧ lrows lent j ≠ .dead ∧ sig ι nx j ∉ T := fun j hj => by
    have := lentOk_get hlent j lent[j] (List.getElem?_eq_getElem hj)
    rw [Nat.zero_add] at this
    have hg : lrows lent j = lent[j] := by simp [lrows, List.getD, List.getElem?_eq_getElem hj]
    rw [hg]; exact this
  have hrow : ∀ i, RowIs (sig ι nx) (rows (sig ι nx i)) (lrows lent i) := fun i => by
    rcases Nat.lt_or_ge i lent.length with hi | hi
    · exact .inr (hl i hi).1
    · exact .inl (by simp [lrows, List.getD, List.getElem?_eq_none hi])
  have hlen : ∀ i, lrows lent i ≠ .dead → i < lent.length := fun i hi => by
    rcases Nat.lt_or_ge i lent.length with h | h
    · exact h
    · exact absurd (by simp [lrows, List.getD, List.getElem?_eq_none h]) hi
  have hrb : ∀ j, j < lent.length → rblk (β (sig ι nx j)) (lrows lent j) = rblk (β (sig ι nx j)) (rows (sig ι nx j)) := fun j hj => by rw [(hl j hj).1, rblk_ren]
  -- the callee's base
  let Bc : Base := { w0 := w, L := fun b => ∃ j, j < lent.length ∧ rblk (β (sig ι nx j)) (rows (sig ι nx j)) = some b, X0 := frzX rows β X T, kl := lent.length, loc := fun j => β (sig ι nx j), rows0 := lrows lent }
  have hLX : ∀ b, Bc.L b → frzX rows β X T b := fun b ⟨j, hj, hb⟩ => ⟨(rowOk_blk (hm.ok _) hb).2, fun i hi hib => (hl j hj).2.2 (by rw [hm.inj _ _ b hb hib]; exact hi)⟩
  have hmc : Mem Bc (fun j => β (sig ι nx j)) (frzX rows β X T) w (lrows lent) lent.length := by
    refine ⟨fun j => ?_, fun i j b hi hj => ?_, fun i hi => by simp [lrows, List.getD, List.getElem?_eq_none hi], fun i cells hc => ?_, rfl, rfl, rfl, Nat.le_refl _, fun _ _ _ => rfl, fun _ _ h => h, fun i b hi _ => ?_, fun _ _ h _ => h, Nat.le_refl _, fun i _ => ⟨RowC.refl _, fun _ => rfl⟩⟩
    · rcases Nat.lt_or_ge j lent.length with hj | hj
      · have ho := hm.ok (sig ι nx j)
        have hX : ∀ b, rblk (β (sig ι nx j)) (rows (sig ι nx j)) = some b → frzX rows β X T b := fun b hb => hLX b ⟨j, hj, hb⟩
        rw [(hl j hj).1] at ho hX
        cases hri : lrows lent j with
        | dead => trivial
        | box cells =>
          rw [hri] at ho hX
          obtain ⟨b, cs, e, fr, h1, h2, h3, h4, h5, h6⟩ := ho
          refine ⟨b, cs, e, fr, h1, hX b (by simp [renRow, rblk, h1]), h3, h4, ?_, h6⟩
          exact repPs_mono (S := fun _ => True) (fun _ _ hx => ⟨rfl, fun hx' => hx hx'.1⟩) (fun i _ => ⟨RowC.refl _, fun _ => rfl⟩) _ _ (Scs.of_mem fun q _ => argOk_rep.Sc_true q) (repPs_unren hrow cells _ h5)
        | own sz el =>
          rw [hri] at ho hX
          obtain ⟨h1, h2, h3⟩ := ho
          refine ⟨h1, h2, ?_⟩
          rcases h3 with h3 | ⟨b, cs, e, fr, h3, h4, h5, h6, h7, h8, h9⟩
          · exact .inl h3
          · exact .inr ⟨b, cs, e, fr, h3, h4, hX b (by simp [renRow, rblk, h4]; omega), h6, h7, h8, repss_X (fun b hb => hb.1) _ _ _ h9⟩
        | iter s pos =>
          rw [hri] at ho hX
          obtain ⟨b, h1, h2, h3⟩ := ho
          exact ⟨b, h1, hX b (by simp [renRow, rblk, h1]), h3⟩
      · rw [show lrows lent j = .dead from by simp [lrows, List.getD, List.getElem?_eq_none hj]]; trivial
    · have hi' := hlen i (fun e => by rw [e] at hi; simp [rblk] at hi)
      have hj' := hlen j (fun e => by rw [e] at hj; simp [rblk] at hj)
      rw [hrb i hi'] at hi; rw [hrb j hj'] at hj
      exact hinj _ _ (hm.inj _ _ b hi hj)
    · have hi' := hlen i (by rw [hc]; simp)
      have h1 := (hl i hi').1
      rw [hc] at h1
      have h2 := hm.scr _ _ h1
      refine Scs_unren (fun k hk => ?_) cells h2
      rcases Nat.lt_or_ge k lent.length with hkl | hkl
      · exact hkl
      · have := hsig2 k hkl; omega
    · have hi' := hlen i (fun e => by rw [e] at hi; simp [rblk] at hi)
      exact ⟨i, hi', by rw [← hrb i hi']; exact hi⟩
  refine (h Bc _ _ w vs rfl rfl hmc (argsOk_rep hm hrow hargs hp)).mono fun e w' ⟨v, β', X', h1, hm', hv, hsv⟩ => ?_
  -- back
  have hgetj : ∀ j, j < out.length → updRows rows (plc (sig ι nx) 0 out) (sig ι nx j) = renRow (sig ι nx) (lrows out j) := fun j hj => by
    have := updRows_plc (σ := sig ι nx) out rows 0 j (fun a b _ _ _ _ he => hinj a b he) hj
    rwa [Nat.zero_add] at this
  have hgetn : ∀ i, (∀ j, j < out.length → sig ι nx j ≠ i) → updRows rows (plc (sig ι nx) 0 out) i = rows i := fun i hi => by
    refine updRows_notin _ _ _ fun x hx => ?_
    obtain ⟨a, _, h2, h3⟩ := plc_mem out 0 hx
    rw [h3]; exact hi a (by omega)
  have β2def : ∃ β2 : Nat → Loc, (∀ i, i < nx → β2 i = β i) ∧ (∀ j, lent.length ≤ j → β2 (sig ι nx j) = β' j) := by
    refine ⟨fun i => if i < nx then β i else β' (lent.length + (i - nx)), fun i hi => by simp [hi], fun j hj => ?_⟩
    rw [hsig2 j hj]
    show (if nx + (j - lent.length) < nx then _ else _) = _
    rw [if_neg (by omega)]
    congr 1; omega
  obtain ⟨β2, hβa, hβb⟩ := β2def
  have hβj : ∀ j, j < out.length → lrows out j ≠ .dead → β2 (sig ι nx j) = β' j := fun j hj hd => by
    rcases Nat.lt_or_ge j lent.length with hjl | hjl
    · rw [hβa _ (hsig1 j hjl)]; exact ((hm'.lk j hjl).2 hd).symm
    · exact hβb j hjl
  let X2 : Nat → Prop := fun b => X' b ∨ ∃ i ∈ T, rblk (β i) (rows i) = some b
  have hcase : ∀ i, (∃ j, j < out.length ∧ i = sig ι nx j) ∨ (∀ j, j < out.length → sig ι nx j ≠ i) := fun i => by
    by_cases hex : ∃ j, j < out.length ∧ i = sig ι nx j
    · exact .inl hex
    · exact .inr fun j hj e => hex ⟨j, hj, e.symm⟩
  have hnot : ∀ i, (∀ j, j < out.length → sig ι nx j ≠ i) → ∀ b, rblk (β i) (rows i) = some b → ¬ Bc.L b := fun i hi b hb ⟨j, hj, hjb⟩ => hi j (by omega) (hm.inj _ _ b hjb hb)
  have hk : KeepX w X w' X2 := fun b hb hx => by
    have hnL : ¬ Bc.L b := fun hL => hx (hLX b hL).1
    refine ⟨hm'.keep b hb hnL, fun hx2 => ?_⟩
    rcases hx2 with hx2 | ⟨i, _, hib⟩
    · exact hx (hm'.xs b hb hx2).1
    · exact hx (rowOk_blk (hm.ok i) hib).2
  have hC : ∀ i, i < nx → RowC (rows i) (updRows rows (plc (sig ι nx) 0 out) i) ∧ (updRows rows (plc (sig ι nx) 0 out) i ≠ .dead → β2 i = β i) := fun i hi => by
    refine ⟨?_, fun _ => hβa i hi⟩
    rcases hcase i with ⟨j, hj, rfl⟩ | hn
    · rw [hgetj j hj]
      rcases Nat.lt_or_ge j lent.length with hjl | hjl
      · rw [(hl j hjl).1]; exact RowC_ren (hm'.lk j hjl).1
      · have := hsig2 j hjl; omega
    · rw [hgetn i hn]; exact RowC.refl _
  have hrr : ∀ j, j < out.length → updRows rows (plc (sig ι nx) 0 out) (sig ι nx j) = renRow (sig ι nx) (lrows out j) ∧ (lrows out j ≠ .dead → β2 (sig ι nx j) = β' j) := fun j hj => ⟨hgetj j hj, hβj j hj⟩
  have renP : ∀ p u, (T = [] ∨ nvP p) → Sc (· < out.length) p → repP (lrows out) β' w' X' p u → repP (updRows rows (plc (sig ι nx) 0 out)) β2 w' X2 (ren (sig ι nx) p) u := fun p u hT' hs hu => by
    rcases hT' with hT' | hT'
    · exact repP_ren (fun b hb => by rcases hb with hb | ⟨i, hi, _⟩; · exact hb
                                     · rw [hT'] at hi; simp at hi) hrr p u hs hu
    · exact repP_ren' hrr p u hT' hs hu
  have hsig3 : ∀ j, j < out.length → sig ι nx j < nx + (out.length - lent.length) := fun j hj => by
    rcases Nat.lt_or_ge j lent.length with hjl | hjl
    · have := hsig1 j hjl; omega
    · have := hsig2 j hjl; omega
  have hblk2 : ∀ i b, rblk (β2 i) (updRows rows (plc (sig ι nx) 0 out) i) = some b → (∃ j, j < out.length ∧ i = sig ι nx j ∧ rblk (β' j) (lrows out j) = some b) ∨ ((∀ j, j < out.length → sig ι nx j ≠ i) ∧ rblk (β i) (rows i) = some b) := fun i b hb => by
    rcases hcase i with ⟨j, hj, rfl⟩ | hn
    · refine .inl ⟨j, hj, rfl, ?_⟩
      rw [hgetj j hj, rblk_ren] at hb
      have hd : lrows out j ≠ .dead := fun e => by rw [e] at hb; simp [rblk] at hb
      rwa [hβj j hj hd] at hb
    · refine .inr ⟨hn, ?_⟩
      rw [hgetn i hn] at hb
      have hi : i < nx := by
        rcases Nat.lt_or_ge i nx with h | h
        · exact h
        · rw [hm.dead i h] at hb; simp [rblk] at hb
      rwa [hβa i hi] at hb
  have hM : Mem B β2 X2 w' (updRows rows (plc (sig ι nx) 0 out)) (nx + (out.length - lent.length)) := by
    refine ⟨fun i => ?_, fun i j b hi hj => ?_, fun i hi => ?_, fun i cells hc => ?_, hm'.os.trans hm.os, hm'.tape.trans hm.tape, hm'.output.trans hm.output, Nat.le_trans hm.size hm'.size, fun b hb hnL => ?_, fun b hb hx => ?_, fun i b hi hb => ?_, fun b hb h0 hnL => ?_, by have := hm.kln; omega, fun i hi => ?_⟩
    · rcases hcase i with ⟨j, hj, rfl⟩ | hn
      · rw [hgetj j hj]
        have ho := hm'.ok j
        cases hri : lrows out j with
        | dead => trivial
        | box cells =>
          rw [hβj j hj (by rw [hri]; simp)]
          rw [hri] at ho
          obtain ⟨b, cs, e, fr, g1, g2, g3, g4, g5, g6⟩ := ho
          refine ⟨b, cs, e, fr, g1, .inl g2, g3, g4, ?_, g6⟩
          have hsc := hm'.scr j cells hri
          rcases hT with hT | hT
          · exact repPs_ren (fun b hb => by rcases hb with hb | ⟨i, hi, _⟩; · exact hb
                                            · rw [hT] at hi; simp at hi) hrr cells _ hsc g5
          · have hmem : (Row.box cells) ∈ out := by
              have : lrows out j = out[j] := by simp [lrows, List.getD, List.getElem?_eq_getElem hj]
              rw [← hri, this]; exact List.getElem_mem hj
            exact repPs_ren' hrr cells _ (nvPs_of_mem (hT.2 _ hmem)) hsc g5
        | own sz el =>
          rw [hβj j hj (by rw [hri]; simp)]
          rw [hri] at ho
          obtain ⟨g1, g2, g3⟩ := ho
          refine ⟨g1, g2, ?_⟩
          rcases g3 with g3 | ⟨b, cs, e, fr, g3, g4, g5, g6, g7, g8, g9⟩
          · exact .inl g3
          · refine .inr ⟨b, cs, e, fr, g3, g4, .inl g5, g6, g7, g8, ?_⟩
            rcases hT with hT | hT
            · exact repss_mono (fun _ _ hx => ⟨rfl, fun hx' => by rcases hx' with hx' | ⟨i, hi, _⟩; · exact hx hx'
                                                                  · rw [hT] at hi; simp at hi⟩) _ _ _ g9
            · have hmem : (Row.own sz el) ∈ out := by
                have : lrows out j = out[j] := by simp [lrows, List.getD, List.getElem?_eq_getElem hj]
                rw [← hri, this]; exact List.getElem_mem hj
              exact repss_nv (hT.2 _ hmem) g9
        | iter s pos =>
          rw [hβj j hj (by rw [hri]; simp)]
          rw [hri] at ho
          obtain ⟨b, g1, g2, g3⟩ := ho
          exact ⟨b, g1, .inl g2, g3⟩
      · rw [hgetn i hn]
        by_cases hi : i < nx
        · rw [hβa i hi]
          refine rowOk_mono (S := (· < nx)) hk hC (fun cells hc => hm.scr i cells hc) (fun b hb => ?_) (hm.ok i)
          have hb' := rowOk_blk (hm.ok i) hb
          have hnL := hnot i hn b hb
          refine ⟨hm'.keep b hb'.1 hnL, fun _ => ?_⟩
          by_cases hTb : ∃ i ∈ T, rblk (β i) (rows i) = some b
          · exact .inr hTb
          · exact .inl (hm'.fx b hb'.1 ⟨hb'.2, fun k hk hkb => hTb ⟨k, hk, hkb⟩⟩ hnL)
        · rw [hm.dead i (by omega)]; trivial
    · rcases hblk2 i b hi with ⟨a, ha, rfl, hab⟩ | ⟨hin, hib⟩ <;> rcases hblk2 j b hj with ⟨c, hc, rfl, hcb⟩ | ⟨hjn, hjb⟩
      · rw [hm'.inj a c b hab hcb]
      · have hb' := (rowOk_blk (hm.ok j) hjb).1
        exact absurd (hm'.lent a b hab hb') (hnot j hjn b hjb)
      · have hb' := (rowOk_blk (hm.ok i) hib).1
        exact absurd (hm'.lent c b hcb hb') (hnot i hin b hib)
      · exact hm.inj i j b hib hjb
    · rcases hcase i with ⟨j, hj, rfl⟩ | hn
      · have := hsig3 j hj; omega
      · rw [hgetn i hn]; exact hm.dead i (by omega)
    · rcases hcase i with ⟨j, hj, rfl⟩ | hn
      · rw [hgetj j hj] at hc
        cases hri : lrows out j with
        | box cells' => rw [hri] at hc; simp only [renRow, Row.box.injEq] at hc; subst hc; exact Scs_ren hsig3 cells' (hm'.scr j cells' hri)
        | _ => rw [hri] at hc; simp [renRow] at hc
      · rw [hgetn i hn] at hc
        exact Scs.mono (fun _ k => by omega) _ (hm.scr i cells hc)
    · have hnL' : ¬ Bc.L b := fun ⟨j, _, hjb⟩ => hnL (hm.lent _ b hjb hb)
      rw [hm'.keep b (by have := hm.size; show b < w.heap.size; omega) hnL']
      exact hm.keep b hb hnL
    · rcases hx with hx | ⟨i, _, hib⟩
      · exact hm.xs b hb (hm'.xs b (by have := hm.size; show b < w.heap.size; omega) hx).1
      · exact hm.xs b hb (rowOk_blk (hm.ok i) hib).2
    · rcases hblk2 i b hi with ⟨a, ha, rfl, hab⟩ | ⟨hin, hib⟩
      · obtain ⟨j, _, hjb⟩ := hm'.lent a b hab (by have := hm.size; show b < w.heap.size; omega)
        exact hm.lent _ b hjb hb
      · exact hm.lent i b hib hb
    · have hX := hm.fx b hb h0 hnL
      by_cases hTb : ∃ i ∈ T, rblk (β i) (rows i) = some b
      · exact .inr hTb
      · refine .inl (hm'.fx b (by have := hm.size; show b < w.heap.size; omega) ⟨hX, fun k hk hkb => hTb ⟨k, hk, hkb⟩⟩ ?_)
        exact fun ⟨j, _, hjb⟩ => hnL (hm.lent _ b hjb hb)
    · have hi' : i < nx := by have := hm.kln; omega
      obtain ⟨g1, g2⟩ := hm.lk i hi
      obtain ⟨g3, g4⟩ := hC i hi'
      refine ⟨g1.trans g3, fun hd => ?_⟩
      rw [hβa i hi']
      refine g2 fun h0 => hd ?_
      rw [h0] at g3
      cases hu : updRows rows (plc (sig ι nx) 0 out) i <;> rw [hu] at g3 <;> simp [RowC] at g3 ⊢
  refine ⟨v, _, _, _, β2, X2, h1, ⟨rfl, rfl, rfl⟩, hM, renP r v (hT.imp id (·.1)) hsv hv, Sc_ren hsig3 r hsv, by omega, fun p u hp hu => repP_mono hk hC p u hp hu⟩
end Go.AM
