/- Proved here: a part of an abstract machine for the walks of this program, and that it tells the truth about the model. No condition. -/
import Derived.Test.YtjaklhbifgbiaaaAmM
set_option linter.unusedSimpArgs false
set_option linter.unusedVariables false
namespace Go.AM
open Go

def encB (b : UInt8) : List DV := [.lit (.int .u8 b.toNat)]

theorem reps_encB (w : World) (X : Nat → Prop) : ∀ (bs : List UInt8), repss w X 1 (bs.map encB) (bs.map fun b => Value.int .u8 b.toNat)
  | [] => by simp [repss]
  | b :: bs => by
    simp only [List.map_cons]
    unfold repss
    refine ⟨[_], _, rfl, rfl, ?_, reps_encB w X bs⟩
    unfold encB reps
    exact ⟨_, _, rfl, rfl, by simp [rep], by simp [reps]⟩

theorem strOf_encB : ∀ (bs : List UInt8), strOf (bs.map encB) = some bs
  | [] => rfl
  | b :: bs => by
    simp only [List.map_cons, encB, strOf, strOf_encB bs]
    simp

/-- what is appended -/
def srcEl (P : Program) (rows : Rows) (t' : TypeId) (sz : Nat) (q : PV) : Option (List (List DV)) :=
  match q with
  | .d (.lit (.string s)) => if tyIs P t' TK.isStr && sz == 1 then some (s.data.toList.map encB) else none
  | .d (.lit (.slice _ 0 _)) => if tyIs P t' TK.isSl then some [] else none
  | q => match viewOf rows q with
    | some (sz', el) => if tyIs P t' TK.isSl && sz' == sz then some el else none
    | none => none

theorem cell?_heap {w w' : World} (h : w'.heap = w.heap) (a : Addr) : w'.cell? a = w.cell? a := by simp [World.cell?, h]

theorem firstCells_view {P : Program} {w : World} {sz n : Nat} {a : Option Addr} {cap : Nat} {vs : List Value} (hl : vs.length = n * sz)
    (h : vs ≠ [] → ∃ b off, a = some ⟨b, off, none⟩ ∧ ∀ j u, vs[j]? = some u → w.cell? ⟨b, off + j, none⟩ = some u) :
    ∀ w', w'.heap = w.heap → (Builtin.firstCells sz n (.slice a n cap)).run P w' = .ok vs.toArray w' := by
  intro w' hw
  by_cases hv : vs = []
  · subst hv
    cases a with
    | none => simp [Builtin.firstCells]
    | some a => exact run_firstCells_some (P := P) w' sz n a n cap [] hl (by simp)
  · obtain ⟨b, off, h1, h2⟩ := h hv
    subst h1
    exact run_firstCells_some (P := P) w' sz n _ n cap vs hl (fun j u hu => by rw [Addr.add_lit, cell?_heap hw]; exact h2 j u hu)

theorem srcEl_ok {P : Program} {B : Base} {β : Nat → Loc} {X : Nat → Prop} {w : World} {rows : Rows} {nx sz : Nat} {t' : TypeId} {q : PV} {v : Value} {el : List (List DV)} (hm : Mem B β X w rows nx)
    (h : repP rows β w X q v) (hv : srcEl P rows t' sz q = some el) :
    SlStr P t' ∧ ∃ vs : List Value, repss w X sz el vs ∧ (∀ w', (Builtin.lenOf v).run P w' = .ok el.length w') ∧
      ∀ w', w'.heap = w.heap → (Builtin.firstCells sz el.length v).run P w' = .ok vs.toArray w' := by
  unfold srcEl at hv
  split at hv
  · rename_i s
    split at hv
    · rename_i ht
      simp only [Bool.and_eq_true, beq_iff_eq] at ht
      obtain ⟨ht, rfl⟩ := ht
      simp only [Option.some.injEq] at hv; subst hv
      unfold repP rep at h
      subst h
      refine ⟨.inr (tyIs_string ht), _, reps_encB w X s.data.toList, fun w' => ?_, fun w' _ => ?_⟩
      · have : s.size = s.data.toList.length := (Array.length_toList (xs := s.data)).symm
        show (Builtin.lenOf (.string s)).run P w' = _
        simp only [Builtin.lenOf, Sem.run_pure, this, List.length_map]
      · simp only [Builtin.firstCells, Sem.run_pure, List.length_map]
        congr 1
        have : s.extract 0 s.data.toList.length = s := by
          rw [Array.length_toList]; exact ByteArray.extract_zero_size
        rw [this]
        apply Array.toList_inj.1
        simp
    · cases hv
  · rename_i a c
    split at hv
    · rename_i ht
      simp only [Option.some.injEq] at hv; subst hv
      unfold repP rep at h
      subst h
      refine ⟨.inl (tyIs_slice ht), [], by simp [repss], fun w' => by simp [Builtin.lenOf], ?_⟩
      exact firstCells_view (w := w) (by simp) (fun hne => absurd rfl hne)
    · cases hv
  · split at hv
    · rename_i sz' el' hview
      split at hv
      · rename_i ht
        simp only [Bool.and_eq_true, beq_iff_eq] at ht
        obtain ⟨ht, rfl⟩ := ht
        simp only [Option.some.injEq] at hv; subst hv
        obtain ⟨a, cap, vs, h1, h2, h3, h4, h5⟩ := viewOf_ok hm h hview
        subst h1
        exact ⟨.inl (tyIs_slice ht), vs, h4, fun w' => by simp [Builtin.lenOf], firstCells_view (repss_length h4) h5⟩
      · cases hv
    · cases hv

/-- what is appended to -/
def baseEl (rows : Rows) (sz : Nat) (p : PV) : Option (Option Nat × List (List DV)) :=
  match p with
  | .d (.lit (.slice none 0 0)) => some (none, [])
  | .own i => match rows i with | .own sz' el => if sz' = sz then some (some i, el) else none | _ => none
  | .win i 0 m => match rows i with | .own sz' el => if sz' = sz then some (some i, el.take m) else none | _ => none
  | _ => none

def killO (rows : Rows) : Option Nat → Rows
  | none => rows
  | some i => upd rows i .dead

structure BaseOk (β : Nat → Loc) (X : Nat → Prop) (w : World) (rows : Rows) (sz : Nat) (i : Option Nat) (el : List (List DV)) (v : Value) (a : Option Addr) (cap : Nat) : Prop where
  v : v = .slice a el.length cap
  le : el.length ≤ cap
  mx : cap ≤ maxLen
  mem : (cap = 0 ∧ el = []) ∨ ∃ k b cs e fr, i = some k ∧ 0 < cap ∧ a = some ⟨b, 0, none⟩ ∧ X b ∧ rblk (β k) (rows k) = some b ∧ w.heap[b]? = some (.cells cs e fr) ∧ Thaw fr cs.size ∧
    cs.size = cap * sz ∧ repss w X sz el (cs.toList.take (el.length * sz))

theorem baseEl_ok {B : Base} {β : Nat → Loc} {X : Nat → Prop} {w : World} {rows : Rows} {nx sz : Nat} {p : PV} {v : Value} {i : Option Nat} {el : List (List DV)} (hm : Mem B β X w rows nx)
    (h : repP rows β w X p v) (hv : baseEl rows sz p = some (i, el)) : ∃ a cap, BaseOk β X w rows sz i el v a cap := by
  unfold baseEl at hv
  split at hv
  · simp only [Option.some.injEq, Prod.mk.injEq] at hv
    obtain ⟨rfl, rfl⟩ := hv
    unfold repP rep at h
    exact ⟨none, 0, h, by simp, by simp, .inl ⟨rfl, rfl⟩⟩
  · rename_i k
    split at hv
    · rename_i sz' el' hk
      split at hv
      · rename_i hsz
        subst hsz
        simp only [Option.some.injEq, Prod.mk.injEq] at hv
        obtain ⟨rfl, rfl⟩ := hv
        have hrow := hm.ok k
        rw [hk] at hrow
        obtain ⟨r1, r2, r3⟩ := hrow
        unfold repP at h
        have hv := h _ _ hk
        refine ⟨(β k).a, (β k).cap, hv, r1, r2, ?_⟩
        rcases r3 with r3 | ⟨b, cs, e, fr, r3, r4, r5, r6, r7, r8, r9⟩
        · exact .inl r3
        · exact .inr ⟨k, b, cs, e, fr, rfl, r3, r4, r5, by rw [hk]; simp [rblk, r4]; omega, r6, r7, r8, r9⟩
      · cases hv
    · cases hv
  · rename_i k m
    split at hv
    · rename_i sz' el' hk
      split at hv
      · rename_i hsz
        subst hsz
        simp only [Option.some.injEq, Prod.mk.injEq] at hv
        obtain ⟨rfl, rfl⟩ := hv
        have hrow := hm.ok k
        rw [hk] at hrow
        obtain ⟨r1, r2, r3⟩ := hrow
        unfold repP at h
        obtain ⟨hle, hv⟩ := h _ _ hk
        have hlen : (el'.take m).length = m := by simp; omega
        have ha : (if (β k).cap = 0 then (β k).a else (β k).a.map (·.add (0 * sz'))) = (β k).a := by
          split
          · rfl
          · cases (β k).a <;> simp [Addr.add]
        rw [ha, Nat.sub_zero] at hv
        refine ⟨(β k).a, (β k).cap, by rw [hlen]; exact hv, by omega, r2, ?_⟩
        rcases r3 with ⟨r3, rfl⟩ | ⟨b, cs, e, fr, r3, r4, r5, r6, r7, r8, r9⟩
        · exact .inl ⟨r3, by simp⟩
        · refine .inr ⟨k, b, cs, e, fr, rfl, r3, r4, r5, by rw [hk]; simp [rblk, r4]; omega, r6, r7, r8, ?_⟩
          have := repss_take m r9
          rw [List.take_take] at this
          rw [hlen]
          have hmul : m * sz' ≤ el'.length * sz' := Nat.mul_le_mul_right _ (by omega)
          rwa [Nat.min_eq_left hmul] at this
      · cases hv
    · cases hv
  · cases hv

def effApp (nx sz bytes : Nat) (i : Option Nat) (el0 el1 : List (List DV)) : Eff where
  ok := (el0.length + el1.length) * bytes ≤ 140737488355328 ∧ el0.length + el1.length ≤ 9223372036854775807
  val := .own nx
  upds := match i with
    | some i => [(i, .dead), (nx, .own sz (el0 ++ el1))]
    | none => [(nx, .own sz (el0 ++ el1))]
  nn := 1

theorem effApp_after (s : St) (sz bytes : Nat) (i : Option Nat) (el0 el1 : List (List DV)) :
    s.after (effApp s.nx sz bytes i el0 el1) = { s with rows := upd (killO s.rows i) s.nx (.own sz (el0 ++ el1)), nx := s.nx + 1 } := by cases i <;> rfl

def evApp (P : Program) (s : St) (t t' : TypeId) (p q : PV) : Option Eff :=
  match tyOf P t with
  | some ty => match ty.k with
    | .slice e => match tyOf P e with
      | some ety => match ety.zero with
        | some z => if z.cells.size = ety.size then match baseEl s.rows ety.size p, srcEl P s.rows t' ety.size q with
          | some (i, el0), some el1 => some (effApp s.nx ety.size ety.bytes i el0 el1)
          | _, _ => none
          else none
        | none => none
      | none => none
    | _ => none
  | none => none

theorem Mem.killO {B : Base} {β : Nat → Loc} {X : Nat → Prop} {w : World} {rows : Rows} {nx : Nat} (h : Mem B β X w rows nx) (i : Option Nat) : Mem B β X w (killO rows i) nx := by
  cases i with
  | none => exact h
  | some i => exact h.kill i

theorem RowC_killO (rows : Rows) (i : Option Nat) (j : Nat) : RowC (rows j) (killO rows i j) := by
  cases i with
  | none => exact RowC.refl _
  | some i =>
    by_cases hj : j = i
    · subst hj; simp only [killO, upd_same]; cases rows j <;> simp [RowC]
    · simp only [killO, upd_ne _ _ hj]; exact RowC.refl _

set_option maxHeartbeats 1000000 in
theorem op_append {P : Program} {o : Oper} {s : St} {t t' : TypeId} {x y : Operand} {e : Eff} (ho : o.op = .call { callee := .builtin .append, args := #[x, y], argTypes := #[t, t'] })
    (h : evApp P s t t' (ev s.regs x) (ev s.regs y) = some e) : OpSound P o s e := by
  unfold evApp at h
  split at h
  · rename_i ty ht
    split at h
    · rename_i et hk
      have hu := tyOf_slice ht hk
      split at h
      · rename_i ety he
        split at h
        · rename_i z hz
          split at h
          · rename_i hzs
            split at h
            · rename_i i el0 el1 hb hs
              simp only [Option.some.injEq] at h; subst h
              intro B β X w a hr hok
              obtain ⟨ab, cap, hB⟩ := baseEl_ok hr.mem (hr.ev x).1 hb
              obtain ⟨hsl, vs, hv1, hv2, hv3⟩ := srcEl_ok hr.mem (hr.ev y).1 hs
              have hm1 := hr.mem.killO i
              have exec : ∀ {v : Value} {w' : World}, (Builtin.append_ #[t, t'] o.type #[.slice ab el0.length cap, a.eval y]).run P w = .ok v w' → (execOp a.eval o).run P w = .ok (.value v) w' := by
                intro v w' hrun
                simp only [execOp, ho, resolve, invoke, builtin, Sem.run_bind, Sem.run_pure, Result.andThen_ok, List.map_toArray, List.map_cons, List.map_nil, hB.v, hrun]
              have fin : ∀ {v : Value} {w' : World} {β' : Nat → Loc} {X' : Nat → Prop}, (Builtin.append_ #[t, t'] o.type #[.slice ab el0.length cap, a.eval y]).run P w = .ok v w' →
                  Mem B β' X' w' (upd (killO s.rows i) s.nx (.own ety.size (el0 ++ el1))) (s.nx + 1) → KeepX w X w' X' → (∀ j, j < s.nx → β' j = β j) →
                  v = .slice (β' s.nx).a (el0.length + el1.length) (β' s.nx).cap →
                  ∃ v w' β' X', ((execOp a.eval o).run P w = .ok (.value v) w' ∨ ((execOp a.eval o).run P w = .ok .skip w' ∧ v = undef)) ∧
                    SRel B β' X' w' a { s with rows := upd (killO s.rows i) s.nx (.own ety.size (el0 ++ el1)), nx := s.nx + 1 } ∧
                    repP (upd (killO s.rows i) s.nx (.own ety.size (el0 ++ el1))) β' w' X' (.own s.nx) v ∧ Sc (· < s.nx + 1) (.own s.nx) := by
                intro v w' β' X' hrun hm' hk' hβ hv
                refine ⟨v, w', β', X', .inl (exec hrun), hr.of_mem hm' (by omega) fun p u hp hu => ?_, ?_, by show s.nx < s.nx + 1; omega⟩
                · refine repP_mono hk' (fun j hj => ⟨?_, fun _ => hβ j hj⟩) p u hp hu
                  rw [upd_ne _ _ (by omega)]
                  exact RowC_killO _ _ _
                · unfold repP
                  intro sz el hel
                  rw [upd_same] at hel
                  cases hel
                  rw [List.length_append]; exact hv
              show ∃ v w' β' X', _ ∧ SRel B β' X' w' a (s.after _) ∧ repP (s.after _).rows β' w' X' _ v ∧ _
              rw [effApp_after s ety.size ety.bytes i el0 el1]
              have hvl := repss_length hv1
              by_cases hfit : el0.length + el1.length ≤ cap
              · have hrun := run_app_fits (ty := o.type) hu he hsl ab el0.length cap el1.length (a.eval y) vs.toArray (hv2 w) (hv3 w rfl) hfit
                rcases hB.mem with ⟨rfl, rfl⟩ | ⟨k, b, cs, e, fr, rfl, m1, m2, m3, m4, m5, m6, m7, m8⟩
                · have h1 : el1 = [] := List.eq_nil_of_length_eq_zero (by omega)
                  subst h1
                  have hvs : vs = [] := List.eq_nil_of_length_eq_zero (by simpa using hvl)
                  subst hvs
                  have hm2 := hm1.new0 ab ety.size
                  refine fin (β' := upd β s.nx ⟨ab, 0⟩) (X' := X) (w' := w) (v := .slice ab 0 0) ?_ hm2 (KeepX.refl _ _) (fun j hj => upd_ne _ _ (by omega)) (by rw [upd_same]; rfl)
                  rw [hrun]
                  cases ab with
                  | none => rfl
                  | some ab => simp [storeCells]
                · subst m2
                  have hlt := (Array.getElem?_eq_some_iff.1 m5).1
                  have hsz : el0.length * ety.size + vs.length ≤ cs.size := by
                    rw [hvl, m7, ← Nat.add_mul]; exact Nat.mul_le_mul_right _ hfit
                  have hst := run_storeCells (P := P) (off := el0.length * ety.size) vs 0 cs w m5 m6 (by simpa using hsz) (repss_oc hv1)
                  have hkeep : ∀ o', KeepX w X (setBlk w b o') X := fun o' c _ hx => ⟨by
                    simp only [setBlk, Array.getElem?_setIfInBounds]; rw [if_neg (fun e => hx (by subst e; exact m3))], hx⟩
                  have hadopt := hm1.adopt b (.cells (cs.toList.take (el0.length * ety.size + 0) ++ vs ++ cs.toList.drop (el0.length * ety.size + 0 + vs.length)).toArray e fr) ⟨some ⟨b, 0, none⟩, cap⟩ (.own ety.size (el0 ++ el1))
                    m3 hlt (fun j hj => by
                      by_cases hjk : j = k
                      · subst hjk; simp [killO, upd_same, rblk] at hj
                      · simp only [killO, upd_ne _ _ hjk] at hj; exact hjk (hr.mem.inj j k b hj m4)) (fun h0 => hr.mem.lent k b m4 h0)
                    (by
                      refine ⟨by rw [List.length_append]; exact hfit, hB.mx, .inr ⟨b, _, e, fr, m1, rfl, m3, setBlk_get hlt, ?_, ?_, ?_⟩⟩
                      · exact ⟨m6.1, fun j hj => m6.2 j (by simp at hj; omega)⟩
                      · simp; omega
                      · have r := repss_mono (hkeep (.cells (cs.toList.take (el0.length * ety.size + 0) ++ vs ++ cs.toList.drop (el0.length * ety.size + 0 + vs.length)).toArray e fr)) _ _ _ (repss_append m8 hv1)
                        simp only [Nat.add_zero, List.length_append] at r ⊢
                        have : List.take ((el0.length + el1.length) * ety.size) (cs.toList.take (el0.length * ety.size) ++ vs ++ cs.toList.drop (el0.length * ety.size + vs.length)) = cs.toList.take (el0.length * ety.size) ++ vs := by
                          rw [List.take_append, List.take_of_length_le (by simp [Nat.add_mul]; omega)]
                          have : (el0.length + el1.length) * ety.size - (cs.toList.take (el0.length * ety.size) ++ vs).length = 0 := by
                            simp [Nat.add_mul]; omega
                          rw [this]; simp
                        rw [this]; exact r)
                    (by simp [rblk]; omega) (fun cells => by simp)
                  refine fin (β' := upd β s.nx ⟨some ⟨b, 0, none⟩, cap⟩) (v := .slice (some ⟨b, 0, none⟩) (el0.length + el1.length) cap) ?_ hadopt.1 hadopt.2 (fun j hj => upd_ne _ _ (by omega)) (by rw [upd_same])
                  rw [hrun]
                  simp only [Addr.add_lit, Nat.zero_add]
                  rw [hst]; rfl
              · have hold : ∃ olds : List Value, (∀ w', w'.heap = w.heap → (Builtin.firstCells ety.size el0.length (.slice ab el0.length cap)).run P w' = .ok olds.toArray w') ∧ repss w X ety.size el0 olds := by
                  rcases hB.mem with ⟨rfl, rfl⟩ | ⟨k, b, cs, e, fr, rfl, m1, m2, m3, m4, m5, m6, m7, m8⟩
                  · exact ⟨[], firstCells_view (w := w) (by simp) (fun hne => absurd rfl hne), by simp [repss]⟩
                  · refine ⟨_, firstCells_view (w := w) (repss_length m8) (fun _ => ⟨b, 0, m2, fun j u hu => ?_⟩), m8⟩
                    rw [cell_of_heap m5, Nat.zero_add]
                    rw [List.getElem?_take] at hu
                    split at hu
                    · simpa using hu
                    · cases hu
                obtain ⟨olds, ho1, ho2⟩ := hold
                obtain ⟨nc, rest, g1, g2, g3, g4⟩ := run_app_grow (ty := o.type) hu he hz hsl ab el0.length cap el1.length (a.eval y) olds.toArray vs.toArray (hv2 w) (ho1 w.drew rfl) (hv3 w.drew rfl) (by omega) hok.1 hok.2
                have hm2 := hm1.drew (w' := w.drew) rfl rfl rfl rfl
                have hol := repss_length ho2
                have r := repss_append ho2 hv1
                obtain ⟨β', q1, q2, q3⟩ := hm2.row et (cs := olds.toArray ++ vs.toArray ++ rest) (sz := ety.size) (cap := nc) (el := el0 ++ el1)
                  (by
                    have : (olds.toArray ++ vs.toArray ++ rest).toList.take ((el0 ++ el1).length * ety.size) = olds ++ vs := by
                      simp only [Array.toList_append, List.length_append]
                      rw [List.take_append, List.take_of_length_le (by simp [Nat.add_mul]; omega)]
                      have : (el0.length + el1.length) * ety.size - (olds ++ vs).length = 0 := by simp [Nat.add_mul]; omega
                      rw [this]; simp
                    rw [this]; exact repss_mono (KeepX.heap (w := w) (w' := w.drew) rfl) _ _ _ r)
                  (by simpa using g1)
                  (by
                    simp only [Array.size_append, List.size_toArray, hol, hvl, g3, hzs, ← Nat.add_mul]
                    congr 1; omega) g2
                have hq : repP (upd (killO s.rows i) s.nx (.own ety.size (el0 ++ el1))) β' (wpush w.drew (.cells (olds.toArray ++ vs.toArray ++ rest) et)) (fun b => X b ∨ b = w.drew.heap.size) (.own s.nx) (.slice (some ⟨w.heap.size, 0, none⟩) (el0 ++ el1).length nc) := q2
                refine ⟨_, _, β', _, .inl (exec g4), hr.of_mem q1 (by omega) fun p u hp hu => ?_, by rw [List.length_append] at hq; exact hq, by show s.nx < s.nx + 1; omega⟩
                refine q3 p u hp (repP_mono (KeepX.heap (w := w) (w' := w.drew) rfl) (fun j hj => ⟨RowC_killO _ i _, fun _ => rfl⟩) p u hp hu)
            · cases h
          · cases h
        · cases h
      · cases h
    · cases h
  · cases h
end Go.AM
