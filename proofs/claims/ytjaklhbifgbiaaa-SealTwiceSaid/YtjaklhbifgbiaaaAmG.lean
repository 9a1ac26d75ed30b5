/- Proved here: a part of an abstract machine for the walks of this program, and that it tells the truth about the model. No condition. -/
import Derived.Test.YtjaklhbifgbiaaaAmF
set_option linter.unusedSimpArgs false
set_option linter.unusedVariables false
namespace Go.AM
open Go

/-! ## store -/
def putC (rows : Rows) (p : PV) (ps : List PV) : Option (Nat × Row) :=
  match p with
  | .ptr i off => match rows i with
    | .box cells => if off + ps.length ≤ cells.length then some (i, .box (cells.take off ++ ps ++ cells.drop (off + ps.length))) else none
    | _ => none
  | .eptr i k c => match rows i with
    | .own sz el => match el[k]?, allD ps with
      | some e, some ds => if c + ds.length ≤ e.length then some (i, .own sz (el.set k (e.take c ++ ds ++ e.drop (c + ds.length)))) else none
      | _, _ => none
    | _ => none
  | _ => none

theorem splice_elem {α : Type} (L us : List α) (M J c sz n : Nat) (hn : us.length = n) (hM : M ≤ L.length) (h1 : J + sz ≤ M) (h2 : c + n ≤ sz) :
    List.take M (List.take (J + c) L ++ us ++ List.drop (J + c + n) L) =
      List.take J (List.take M L) ++ (List.take c (List.take sz (List.drop J (List.take M L))) ++ us ++ List.drop (c + n) (List.take sz (List.drop J (List.take M L)))) ++
        List.drop (J + sz) (List.take M L) := by
  have e1 : List.take M (List.take (J + c) L ++ us ++ List.drop (J + c + n) L) = List.take (J + c) (List.take M L) ++ us ++ List.drop (J + c + n) (List.take M L) := by
    rw [List.take_append, List.take_append, List.take_take, List.take_take, List.length_append, List.length_take, Nat.min_eq_left (show J + c ≤ L.length by omega), hn,
      List.take_of_length_le (l := us) (by omega), List.drop_take, Nat.min_eq_right (show J + c ≤ M by omega), Nat.min_eq_left (show J + c ≤ M by omega)]
  rw [e1]
  generalize hT : List.take M L = T
  have hTl : T.length = M := by rw [← hT, List.length_take]; omega
  have e2 : List.take (J + c) T = List.take J T ++ List.take c (List.take sz (List.drop J T)) := by
    rw [List.take_take, Nat.min_eq_left (show c ≤ sz by omega), List.take_add]
  have e3 : List.drop (J + c + n) T = List.drop (c + n) (List.take sz (List.drop J T)) ++ List.drop (J + sz) T := by
    rw [show J + c + n = J + (c + n) from by omega, ← List.drop_drop, ← List.drop_drop (i := sz)]
    conv => lhs; rw [← List.take_append_drop sz (List.drop J T)]
    rw [List.drop_append, List.length_take, List.length_drop, Nat.min_eq_left (by omega), show c + n - sz = 0 from by omega]
    simp
  rw [e2, e3]
  simp only [List.append_assoc]

def evStore (P : Program) (rows : Rows) (t : TypeId) (p q : PV) : Option (Nat × Row) :=
  match tyOf P t, cellsP rows q with
  | some ty, some ps => if ps.length = ty.size then putC rows p ps else none
  | _, _ => none

set_option maxHeartbeats 400000 in
theorem evStore_ok {P : Program} {B : Base} {β : Nat → Loc} {X : Nat → Prop} {w : World} {rows : Rows} {nx : Nat} {t : TypeId} {p q : PV} {v u : Value} {i : Nat} {r : Row} (hm : Mem B β X w rows nx)
    (h : repP rows β w X p v) (hq : repP rows β w X q u) (hsq : Sc (· < nx) q) (he : evStore P rows t p q = some (i, r)) :
    ∃ w', (Instr.storeAt t v u).run P w = .ok () w' ∧ Mem B β X w' (upd rows i r) nx ∧ KeepX w X w' X ∧
      (∀ i', i' < nx → RowC (rows i') (upd rows i r i') ∧ (upd rows i r i' ≠ .dead → β i' = β i')) := by
  unfold evStore at he
  split at he
  · rename_i ty ps hty hps
    split at he
    · rename_i hsz
      obtain ⟨c1, c2, c3⟩ := cellsP_ok hq hsq hps
      have cl := repPs_length c1
      have hsz' : u.cells.size = ty.size := by rw [← hsz, ← cl]; simp
      have run0 : ∀ (b off : Nat), v = .pointer (some ⟨b, off, none⟩) → (Instr.storeAt t v u).run P w = (storeCells ⟨b, off, none⟩ u.cells.toList 0).run P w := by
        intro b off hv
        subst hv
        simp only [Instr.storeAt, Instr.sureAddr, Sem.run_bind, Sem.run_pure, Result.andThen_ok, storeVar, tyOf_size hty, hsz']
        simp
      cases p with
      | ptr k off =>
        simp only [putC] at he
        split at he
        · rename_i cells hi
          split at he
          · rename_i hle
            simp only [Option.some.injEq, Prod.mk.injEq] at he
            obtain ⟨rfl, rfl⟩ := he
            have hrow := hm.ok k
            rw [hi] at hrow
            obtain ⟨b, cs, e, fr, h1, h2, h3, h4, h5, h6⟩ := hrow
            unfold repP at h
            obtain ⟨b', h7, h8⟩ := h (by rw [hi]; simp)
            rw [h1] at h7
            obtain rfl : b = b' := by simpa using h7
            have hl := repPs_length h5
            simp only [Array.length_toList] at hl
            have hlc : off + u.cells.toList.length ≤ cs.size := by rw [cl]; omega
            have hst := run_storeCells (P := P) (off := off) u.cells.toList 0 cs w h3 h4 (by simpa using hlc) c2
            refine ⟨_, (run0 b off h8).trans hst, ?_⟩
            have hW := Mem.write (w' := setBlk w b (.cells (cs.toList.take (off + 0) ++ u.cells.toList ++ cs.toList.drop (off + 0 + u.cells.toList.length)).toArray e fr)) hm k b _
              (.box (cells.take off ++ ps ++ cells.drop (off + ps.length))) (by rw [hi]; simp [rblk, h1]) rfl rfl rfl rfl (by rw [hi]; trivial) (fun c hc => by simp [rblk, h1] at hc; exact hc.symm)
              (fun hC hK => ?_) (fun cells' hc => ?_)
            · exact hW
            · have hlt := (Array.getElem?_eq_some_iff.1 h3).1
              refine ⟨b, _, e, fr, h1, h2, setBlk_get hlt, ?_, ?_, ?_⟩
              · exact ⟨h4.1, fun j hj => h4.2 j (by simp at hj hlc; omega)⟩
              · refine repPs_mono hK hC _ _ (Scs.append (Scs.append ((hm.scr k cells hi).take off) c3) ((hm.scr k cells hi).drop _)) ?_
                simp only [Nat.add_zero]
                have := repPs_append (repPs_append (repPs_take off h5) c1) (repPs_drop (off + ps.length) h5)
                rw [← cl] at this ⊢
                exact this
              · intro x hx
                simp only [Nat.add_zero, List.append_assoc, List.mem_append] at hx
                rcases hx with hx | hx | hx
                · exact h6 x (List.mem_of_mem_take hx)
                · exact c2 x hx
                · exact h6 x (List.mem_of_mem_drop hx)
            · cases hc
              exact Scs.append (Scs.append ((hm.scr k cells hi).take off) c3) ((hm.scr k cells hi).drop _)
          · cases he
        · cases he
      | eptr k j c =>
        simp only [putC] at he
        split at he
        · rename_i sz el hi
          split at he
          · rename_i e ds hej hds
            split at he
            · rename_i hle
              simp only [Option.some.injEq, Prod.mk.injEq] at he
              obtain ⟨rfl, rfl⟩ := he
              have hps' := allD_eq hds
              subst hps'
              have c1d := repPs_d c1 c2
              have hrow := hm.ok k
              rw [hi] at hrow
              obtain ⟨h1, h2, h3⟩ := hrow
              unfold repP at h
              obtain ⟨hk, b', h7, h8⟩ := h sz el hi
              rcases h3 with ⟨_, rfl⟩ | ⟨b, cs, ety, fr, h3, h4, h5, h6, h9, h10, h11⟩
              · simp at hk
              · rw [h4] at h7
                obtain rfl : b = b' := by simpa using h7
                obtain ⟨g1, g2, g3⟩ := repss_get h11 j e hej
                have hcs : el.length * sz ≤ cs.size := by rw [h10]; exact Nat.mul_le_mul_right _ h1
                have hjs : j * sz + sz ≤ el.length * sz := by
                  have := Nat.mul_le_mul_right sz (show j + 1 ≤ el.length from hk); rw [Nat.add_mul] at this; omega
                have cl' : u.cells.toList.length = ds.length := by rw [cl]; simp
                have hst := run_storeCells (P := P) (off := j * sz + c) u.cells.toList 0 cs w h6 h9 (by rw [cl']; omega) c2
                refine ⟨_, (run0 b _ h8).trans hst, ?_⟩
                have hlt := (Array.getElem?_eq_some_iff.1 h6).1
                have hW := Mem.write (w' := setBlk w b (.cells (cs.toList.take (j * sz + c + 0) ++ u.cells.toList ++ cs.toList.drop (j * sz + c + 0 + u.cells.toList.length)).toArray ety fr)) hm k b _
                  (.own sz (el.set j (e.take c ++ ds ++ e.drop (c + ds.length)))) (by rw [hi]; simp [rblk, h4]; omega) rfl rfl rfl rfl (by rw [hi]; simp [RowC]) (fun c' hc => by simp [rblk, h4] at hc; exact hc.2.symm)
                  (fun hC hK => ?_) (fun cells' hc => by cases hc)
                · exact hW
                · refine ⟨by simpa using h1, h2, .inr ⟨b, _, ety, fr, h3, h4, h5, setBlk_get hlt, ?_, ?_, ?_⟩⟩
                  · exact ⟨h9.1, fun j' hj => h9.2 j' (by simp [cl'] at hj; omega)⟩
                  · simp [cl']; omega
                  · have r1 := reps_take c g2
                    have r2 := reps_drop (c + ds.length) g2
                    have r3 := reps_append (reps_append r1 c1d) r2
                    have r4 := repss_set h11 j _ _ hk (by simp [cl']; omega) r3
                    refine repss_mono hK sz _ _ ?_
                    rw [List.length_set]
                    have : (List.take (el.length * sz) (cs.toList.take (j * sz + c + 0) ++ u.cells.toList ++ cs.toList.drop (j * sz + c + 0 + u.cells.toList.length))) =
                        List.take (j * sz) (List.take (el.length * sz) cs.toList) ++
                          (List.take c (List.take sz (List.drop (j * sz) (List.take (el.length * sz) cs.toList))) ++ u.cells.toList ++
                            List.drop (c + ds.length) (List.take sz (List.drop (j * sz) (List.take (el.length * sz) cs.toList)))) ++
                        List.drop (j * sz + sz) (List.take (el.length * sz) cs.toList) := by
                      simp only [Nat.add_zero, cl']
                      exact splice_elem cs.toList u.cells.toList _ (j * sz) c sz ds.length cl' (by simpa using hcs) (by omega) (by omega)
                    skip
                    rw [this]
                    exact r4
            · cases he
          · cases he
        · cases he
      | _ => simp [putC] at he
    · cases he
  · cases he
end Go.AM
