/- Proved here: operations and calls of an abstract machine tell the truth about the model. No condition. -/
import Derived.Test.YtldckdbdgbpmpaaAmNa
import Derived.MapKept
set_option linter.unusedSimpArgs false
set_option linter.unusedVariables false
namespace Go.AM
open Go

/-! ## maps -/
def keyOf : PV → Option MKey
  | .d (.lit (.int k n)) => some (.int k n)
  | .d (.lit (.string s)) => some (.str s)
  | .d (.agg [.lit (.string s), .lit (.string t)]) => some (.str2 s t)
  | _ => none

theorem keyOf_val {rows : Rows} {β : Nat → Loc} {w : World} {X : Nat → Prop} {p : PV} {k : MKey} {v : Value} (h : keyOf p = some k) (hv : repP rows β w X p v) : v = k.val := by
  unfold keyOf at h
  split at h
  · simp only [Option.some.injEq] at h; subst h; unfold repP rep at hv; exact hv
  · simp only [Option.some.injEq] at h; subst h; unfold repP rep at hv; exact hv
  · simp only [Option.some.injEq] at h; subst h
    unfold repP rep at hv
    obtain ⟨vs, rfl, h2⟩ := hv
    unfold reps at h2
    obtain ⟨u, us, rfl, _, h3, h4⟩ := h2
    unfold reps at h4
    obtain ⟨u', us', rfl, _, h5, h6⟩ := h4
    unfold reps at h6
    subst h6
    unfold rep at h3 h5
    subst h3; subst h5
    rfl
  · cases h

/-- keys of which the model tells at once whether they are the same -/
def keyTy (P : Program) (t : TypeId) (kd : MKd) : Bool :=
  match tyOf P t with
  | some ty => match ty.k with
    | .int k => (match kd with | .int k' => decide (k' = k) | _ => false)
    | .string => (match kd with | .str => true | _ => false)
    | _ => false
  | none => false

theorem keyTy_spec {P : Program} {t : TypeId} {kd : MKd} (h : keyTy P t kd = true) : ∃ d, P.underlying t = some d ∧ ∀ k : MKey, k.kd = kd → MapKept.IsKey d k.val := by
  unfold keyTy at h
  split at h
  · rename_i ty ht
    split at h
    · rename_i k hk
      split at h
      · rename_i k'
        simp only [decide_eq_true_eq] at h
        subst h
        refine ⟨_, tyOf_int ht hk, fun q hq => ?_⟩
        cases q with
        | int k n => simp only [MKey.kd, MKd.int.injEq] at hq; subst hq; simp [MKey.val, MapKept.IsKey]
        | str s => simp [MKey.kd] at hq
        | str2 s t => simp [MKey.kd] at hq
      · cases h
    · rename_i hk
      split at h
      · refine ⟨_, tyOf_string ht hk, fun q hq => ?_⟩
        cases q with
        | int k n => simp [MKey.kd] at hq
        | str s => simp [MKey.val, MapKept.IsKey]
        | str2 s t => simp [MKey.kd] at hq
      · cases h
    · cases h
  · cases h

def mget (k : MKey) : List (MKey × Nat × PV) → Option PV
  | [] => none
  | e :: l => if e.1 = k then some e.2.2 else mget k l
def mset (k : MKey) (v : PV) (clock : Nat) : List (MKey × Nat × PV) → List (MKey × Nat × PV)
  | [] => [(k, clock, v)]
  | e :: l => if e.1 = k then (k, e.2.1, v) :: l else e :: mset k v clock l
def mdel (k : MKey) : List (MKey × Nat × PV) → List (MKey × Nat × PV)
  | [] => []
  | e :: l => if e.1 = k then l else e :: mdel k l

theorem MKey.val_inj {a b : MKey} (h : a.val = b.val) : a = b := by
  cases a <;> cases b <;> simp_all [MKey.val]

/-- what is found -/
theorem find_es {rows : Rows} {β : Nat → Loc} {w : World} {X : Nat → Prop} {d : TypeDesc} {k : MKey} {kd : MKd} (hk : k.kd = kd) (hd : ∀ k : MKey, k.kd = kd → MapKept.IsKey d k.val) :
    ∀ (ents : List (MKey × Nat × PV)) (es : List MapEntry) (i : Nat), repEs rows β w X ents es → (∀ e ∈ ents, e.1.kd = kd) →
    (mget k ents = none ∧ Instr.findNow d k.val es i = some none ∧ (∀ v c, mset k v c ents = ents ++ [(k, c, v)]) ∧ mdel k ents = ents) ∨
    ∃ j e n p, Instr.findNow d k.val es i = some (some (i + j, e.val)) ∧ es[j]? = some e ∧ e.key = k.val ∧ ents[j]? = some (k, n, p) ∧ mget k ents = some p ∧ (∀ v c, mset k v c ents = ents.set j (k, n, v)) ∧ mdel k ents = ents.eraseIdx j
  | [], es, i, h, _ => by
    rw [show es = [] from h]
    exact .inl ⟨rfl, rfl, fun _ _ => rfl, rfl⟩
  | (k', n, p) :: l, es, i, h, hall => by
    obtain ⟨e, es', rfl, h2, h3, h4, h5⟩ := h
    have hk' := hall (k', n, p) List.mem_cons_self
    obtain ⟨r, hr, hiff⟩ := MapKept.sameNow_of_keys (hd k hk) (hd k' hk')
    rw [← h2] at hr
    cases r with
    | true =>
      have hkk : k = k' := MKey.val_inj (hiff.1 rfl)
      subst hkk
      refine .inr ⟨0, e, n, p, by simp [Instr.findNow, hr], rfl, h2, rfl, by simp [mget], fun v c => by simp [mset], by simp [mdel]⟩
    | false =>
      have hne : k' ≠ k := fun q => by have := hiff.2 (by rw [q]); cases this
      rcases find_es hk hd l es' (i + 1) h5 (fun x hx => hall x (List.mem_cons_of_mem _ hx)) with ⟨g1, g2, g3, g4⟩ | ⟨j, e', n', p', g1, g2, g3, g4, g5, g6, g7⟩
      · exact .inl ⟨by simp [mget, hne, g1], by simp [Instr.findNow, hr, g2], fun v c => by simp [mset, hne, g3], by simp [mdel, hne, g4]⟩
      · exact .inr ⟨j + 1, e', n', p', by simp [Instr.findNow, hr, g1]; omega, by simpa using g2, g3, by simpa using g4, by simp [mget, hne, g5], fun v c => by simp [mset, hne, g6], by simp [mdel, hne, g7]⟩

theorem repEs_get {rows : Rows} {β : Nat → Loc} {w : World} {X : Nat → Prop} : ∀ {ents : List (MKey × Nat × PV)} {es : List MapEntry}, repEs rows β w X ents es → ∀ (j : Nat) (e : MapEntry) (k : MKey) (n : Nat) (p : PV), es[j]? = some e → ents[j]? = some (k, n, p) →
    e.key = k.val ∧ e.born = n ∧ repP rows β w X p e.val
  | [], es, h, j, e, k, n, p, h1, h2 => by simp at h2
  | (k', n', p') :: l, es, h, 0, e, k, n, p, h1, h2 => by
    obtain ⟨e0, es', rfl, g2, g3, g4, g5⟩ := h
    simp only [List.getElem?_cons_zero, Option.some.injEq, Prod.mk.injEq] at h1 h2
    obtain ⟨rfl, rfl, rfl⟩ := h2
    subst h1
    exact ⟨g2, g3, g4⟩
  | (k', n', p') :: l, es, h, j + 1, e, k, n, p, h1, h2 => by
    obtain ⟨e0, es', rfl, g2, g3, g4, g5⟩ := h
    exact repEs_get g5 j e k n p (by simpa using h1) (by simpa using h2)

theorem repEs_set {rows : Rows} {β : Nat → Loc} {w : World} {X : Nat → Prop} : ∀ {ents : List (MKey × Nat × PV)} {es : List MapEntry}, repEs rows β w X ents es → ∀ (j : Nat) (e : MapEntry) (k : MKey) (n : Nat) (p : PV), e.key = k.val → e.born = n → repP rows β w X p e.val →
    repEs rows β w X (ents.set j (k, n, p)) (es.set j e)
  | [], es, h, j, e, k, n, p, _, _, _ => by rw [show es = [] from h]; exact rfl
  | (k', n', p') :: l, es, h, 0, e, k, n, p, h1, h2, h3 => by
    obtain ⟨e0, es', rfl, g2, g3, g4, g5⟩ := h
    exact ⟨e, es', rfl, h1, h2, h3, g5⟩
  | (k', n', p') :: l, es, h, j + 1, e, k, n, p, h1, h2, h3 => by
    obtain ⟨e0, es', rfl, g2, g3, g4, g5⟩ := h
    exact ⟨e0, es'.set j e, rfl, g2, g3, g4, repEs_set g5 j e k n p h1 h2 h3⟩

theorem repEs_push {rows : Rows} {β : Nat → Loc} {w : World} {X : Nat → Prop} : ∀ {ents : List (MKey × Nat × PV)} {es : List MapEntry}, repEs rows β w X ents es → ∀ (e : MapEntry) (k : MKey) (n : Nat) (p : PV), e.key = k.val → e.born = n → repP rows β w X p e.val →
    repEs rows β w X (ents ++ [(k, n, p)]) (es ++ [e])
  | [], es, h, e, k, n, p, h1, h2, h3 => by rw [show es = [] from h]; exact ⟨e, [], rfl, h1, h2, h3, rfl⟩
  | (k', n', p') :: l, es, h, e, k, n, p, h1, h2, h3 => by
    obtain ⟨e0, es', rfl, g2, g3, g4, g5⟩ := h
    exact ⟨e0, es' ++ [e], rfl, g2, g3, g4, repEs_push g5 e k n p h1 h2 h3⟩

theorem repEs_erase {rows : Rows} {β : Nat → Loc} {w : World} {X : Nat → Prop} : ∀ {ents : List (MKey × Nat × PV)} {es : List MapEntry}, repEs rows β w X ents es → ∀ (j : Nat), repEs rows β w X (ents.eraseIdx j) (es.eraseIdx j)
  | [], es, h, j => by rw [show es = [] from h]; exact rfl
  | (k', n', p') :: l, es, h, 0 => by
    obtain ⟨e0, es', rfl, g2, g3, g4, g5⟩ := h
    exact g5
  | (k', n', p') :: l, es, h, j + 1 => by
    obtain ⟨e0, es', rfl, g2, g3, g4, g5⟩ := h
    exact ⟨e0, es'.eraseIdx j, rfl, g2, g3, g4, repEs_erase g5 j⟩

/-- a map that a register holds -/
theorem map_row {B : Base} {β : Nat → Loc} {X : Nat → Prop} {w : World} {rows : Rows} {nx i : Nat} {kd : MKd} {clock : Nat} {ents : List (MKey × Nat × PV)} {v : Value} (hm : Mem B β X w rows nx) (hi : rows i = .map kd clock ents) (hv : repP rows β w X (.mp i) v) :
    ∃ b es, (β i).a = some ⟨b, 0, none⟩ ∧ X b ∧ w.heap[b]? = some (.map es clock) ∧ repEs rows β w X ents es.toList ∧ (∀ e ∈ ents, e.1.kd = kd) ∧ v = .map (some b) := by
  unfold repP at hv
  obtain ⟨b, hb, hv⟩ := hv (by rw [hi]; simp)
  have hrow := hm.ok i
  rw [hi] at hrow
  obtain ⟨b', es, g1, g2, g3, g4, g5⟩ := hrow
  rw [hb] at g1
  obtain rfl : b = b' := by simpa using g1
  exact ⟨b, es, hb, g2, g3, g4, g5, hv⟩

/-! ### to look up -/
def okTup (b : Bool) (p : PV) (there : Bool) : PV := if b then .tup [p, .d (.lit (.bool there))] else p
def evLook (P : Program) (rows : Rows) (t : TypeId) (p q : PV) (ok : Bool) : Option PV :=
  match p with
  | .mp i => match rows i with
    | .map kd _ ents => match keyOf q with
      | some k => match tyOf P t with
        | some ty => match ty.k with
          | .map kt et => if keyTy P kt kd = true ∧ k.kd = kd then (match mget k ents with
            | some v => some (okTup ok v true)
            | none => match tyOf P et with
              | some ety => match ety.zero with
                | some z => some (okTup ok (ofVal z) false)
                | none => none
              | none => none) else none
          | _ => none
        | none => none
      | none => none
    | _ => none
  | _ => none

theorem mget_mem {k : MKey} {p : PV} : ∀ {ents : List (MKey × Nat × PV)}, mget k ents = some p → ∃ n, (k, n, p) ∈ ents
  | [], h => by simp [mget] at h
  | e :: l, h => by
    obtain ⟨k', n, q⟩ := e
    simp only [mget] at h
    split at h
    · rename_i hk
      simp only [Option.some.injEq] at h
      subst hk; subst h
      exact ⟨n, List.mem_cons_self⟩
    · obtain ⟨n', hm⟩ := mget_mem h; exact ⟨n', List.mem_cons_of_mem _ hm⟩

theorem okTup_rep {rows : Rows} {β : Nat → Loc} {w : World} {X : Nat → Prop} {p : PV} {v : Value} (ok there : Bool) (h : repP rows β w X p v) : repP rows β w X (okTup ok p there) (if ok then .tuple #[v, .bool there] else v) := by
  unfold okTup
  cases ok
  · exact h
  · simp only [if_true]
    unfold repP
    refine ⟨[v, .bool there], rfl, ?_⟩
    unfold repPs
    refine ⟨_, _, rfl, h, ?_⟩
    unfold repPs
    exact ⟨_, _, rfl, by simp [repP, rep], by simp [repPs]⟩
theorem Sc_okTup {S : Nat → Prop} {p : PV} (ok there : Bool) (h : Sc S p) : Sc S (okTup ok p there) := by
  unfold okTup
  cases ok
  · exact h
  · exact ⟨h, trivial, trivial⟩

theorem op_look {P : Program} {o : Oper} {s : St} {t : TypeId} {x y : Operand} {ok : Bool} {q : PV} (ho : o.op = .lookup t x y ok) (h : evLook P s.rows t (ev s.regs x) (ev s.regs y) ok = some q) : OpSound P o s (Eff.pureIf True q) :=
  sound_pure fun B β X w a hr _ => by
    unfold evLook at h
    split at h
    · rename_i i hx
      split at h
      · rename_i kd clock ents hi
        split at h
        · rename_i k hk
          split at h
          · rename_i ty ht
            split at h
            · rename_i kt et htk
              have hu := tyOf_map ht htk
              split at h
              · rename_i hc
                obtain ⟨d, hd, hd2⟩ := keyTy_spec hc.1
                have hxx := hr.ev x
                rw [hx] at hxx
                obtain ⟨b, es, m1, m2, m3, m4, m5, m6⟩ := map_row hr.mem hi hxx.1
                have hky := keyOf_val hk (hr.ev y).1
                have hsk := hd2 k hc.2
                have hsr := hr.mem.sr i
                rw [hi] at hsr
                rcases find_es hc.2 hd2 ents es.toList 0 m4 m5 with ⟨g1, g2, _⟩ | ⟨j, e, n, p, g1, g2, g3, g4, g5, _⟩
                · rw [g1] at h
                  simp only at h
                  split at h
                  · rename_i ety he
                    split at h
                    · rename_i z hz
                      simp only [Option.some.injEq] at h; subst h
                      refine ⟨_, ?_, okTup_rep ok false (ofVal_ok _ _ _ _ z), Sc_okTup ok false (Sc_ofVal _ z)⟩
                      simp only [execOp, ho, hky, m6, Instr.lookup, Sem.run_bind, run_underlying hu, MapKept.run_getObj_map m3, MapKept.run_checkKey hd hsk, MapKept.run_findKey hd g2, tyOf_zero he hz, Result.andThen_ok, Sem.run_pure]
                    · cases h
                  · cases h
                · rw [g5] at h
                  simp only [Option.some.injEq] at h; subst h
                  obtain ⟨n', hmem⟩ := mget_mem g5
                  refine ⟨_, ?_, okTup_rep ok true (repEs_get m4 j e k n p g2 g4).2.2, Sc_okTup ok true (hsr _ hmem)⟩
                  simp only [execOp, ho, hky, m6, Instr.lookup, Sem.run_bind, run_underlying hu, MapKept.run_getObj_map m3, MapKept.run_checkKey hd hsk, MapKept.run_findKey hd g1, Result.andThen_ok, Sem.run_pure]
              · cases h
            · cases h
          · cases h
        · cases h
      · cases h
    · cases h

/-! ### to write -/
def evMset (P : Program) (rows : Rows) (t : TypeId) (p q v : PV) : Option (Nat × Row) :=
  match p with
  | .mp i => match rows i with
    | .map kd clock ents => match keyOf q with
      | some k => match tyOf P t with
        | some ty => match ty.k with
          | .map kt _ => if keyTy P kt kd = true ∧ k.kd = kd then some (i, .map kd (match mget k ents with | some _ => clock | none => clock + 1) (mset k v clock ents)) else none
          | _ => none
        | none => none
      | none => none
    | _ => none
  | _ => none

theorem eraseIdxIf {α : Type} (es : Array α) (j : Nat) (h : j < es.size) : (es.eraseIdxIfInBounds j).toList = es.toList.eraseIdx j := by
  unfold Array.eraseIdxIfInBounds
  rw [dif_pos h]
  simp

theorem modify_set {es : Array MapEntry} {j : Nat} {e : MapEntry} (f : MapEntry → MapEntry) (h : es.toList[j]? = some e) : (es.modify j f).toList = es.toList.set j (f e) := by
  apply List.ext_getElem?
  intro i
  rw [List.getElem?_set, Array.getElem?_toList, Array.getElem?_modify]
  rw [Array.getElem?_toList] at h ⊢
  by_cases hij : j = i
  · subst hij
    obtain ⟨hlt, he⟩ := Array.getElem?_eq_some_iff.1 h
    simp [hlt, he]
  · simp [hij]

theorem op_mset {P : Program} {o : Oper} {s : St} {t : TypeId} {x y z : Operand} {r : Nat × Row} (ho : o.op = .mapUpdate t x y z) (h : evMset P s.rows t (ev s.regs x) (ev s.regs y) (ev s.regs z) = some r) : OpSound P o s (effSet r.1 r.2) := by
  unfold evMset at h
  split at h
  · rename_i i hx
    split at h
    · rename_i kd clock ents hi
      split at h
      · rename_i k hk
        split at h
        · rename_i ty ht
          split at h
          · rename_i kt et htk
            have hu := tyOf_map ht htk
            split at h
            · rename_i hc
              simp only [Option.some.injEq] at h; subst h
              intro B β X w a hr _
              obtain ⟨d, hd, hd2⟩ := keyTy_spec hc.1
              have hxx := hr.ev x
              rw [hx] at hxx
              obtain ⟨b, es, m1, m2, m3, m4, m5, m6⟩ := map_row hr.mem hi hxx.1
              have hky := keyOf_val hk (hr.ev y).1
              have hsk := hd2 k hc.2
              have hsr := hr.mem.sr i
              rw [hi] at hsr
              have hz := hr.ev z
              have hlt := (Array.getElem?_eq_some_iff.1 m3).1
              have fin : ∀ (c' : Nat) (ents' : List (MKey × Nat × PV)) (es' : Array MapEntry), repEs s.rows β w X ents' es'.toList → (∀ e ∈ ents', e.1.kd = kd) → (∀ e ∈ ents', Sc (· < s.nx) e.2.2) →
                  (execOp a.eval o).run P w = .ok .skip (setBlk w b (.map es' c')) → ∃ v w' β' X', ((execOp a.eval o).run P w = .ok (.value v) w' ∨ ((execOp a.eval o).run P w = .ok .skip w' ∧ v = undef)) ∧
                    SRel B β' X' w' a (s.after (effSet i (.map kd c' ents'))) ∧ repP (s.after (effSet i (.map kd c' ents'))).rows β' w' X' (effSet i (.map kd c' ents')).val v ∧ Sc (· < s.nx + (effSet i (.map kd c' ents')).nn) (effSet i (.map kd c' ents')).val := fun c' ents' es' f1 f2 f3 f4 => by
                obtain ⟨q1, q2, q3⟩ := Mem.write (w' := setBlk w b (.map es' c')) hr.mem i b (.map es' c') (.map kd c' ents') (by rw [hi]; simp [rblk, m1]) rfl rfl rfl rfl (by rw [hi]; exact rfl) (fun c hc => by simp [rblk, m1] at hc; exact hc.symm)
                  (fun hC hK => ⟨b, es', m1, m2, setBlk_get hlt, repEs_mono hK hC ents' _ f3 f1, f2⟩) f3
                exact ⟨undef, _, β, X, .inr ⟨f4, rfl⟩, hr.of_mem q1 (Nat.le_refl _) (fun p v hpp h => repP_mono q2 q3 p v hpp h), by simp [effSet, repP], trivial⟩
              have hset : ∀ o' : Obj, (setObj b o').run P w = .ok () (setBlk w b o') := fun o' => by rw [MapKept.run_setObj_map o' m3]; rfl
              rcases find_es hc.2 hd2 ents es.toList 0 m4 m5 with ⟨g1, g2, g3, _⟩ | ⟨j, e, n, p, g1, g2, g3, g4, g5, g6, _⟩
              · rw [g1]
                simp only [g3]
                refine fin (clock + 1) _ (es.push { key := k.val, val := a.eval z, born := clock }) ?_ ?_ ?_ ?_
                · rw [Array.toList_push]
                  exact repEs_push m4 _ k clock _ rfl rfl hz.1
                · intro e he
                  rcases List.mem_append.1 he with he | he
                  · exact m5 e he
                  · rw [List.mem_singleton.1 he]; exact hc.2
                · intro e he
                  rcases List.mem_append.1 he with he | he
                  · exact hsr e he
                  · rw [List.mem_singleton.1 he]; exact hz.2
                · simp only [execOp, ho, hky, m6, Instr.mapUpdate, Sem.run_bind, run_underlying hu, MapKept.run_getObj_map m3, MapKept.run_checkKey hd hsk, MapKept.run_findKey hd g2, Result.andThen_ok, hset, Sem.run_pure]
              · rw [g5]
                simp only [g6]
                have hes : es[j]? = some e := by rw [← Array.getElem?_toList]; exact g2
                have hgk : ((es[j]?).map (·.key)).getD k.val = k.val := by rw [hes]; exact g3
                refine fin clock _ (es.modify j fun e => { e with key := k.val, val := a.eval z }) ?_ ?_ ?_ ?_
                · rw [modify_set _ g2]
                  exact repEs_set m4 j _ k n _ rfl (repEs_get m4 j e k n p g2 g4).2.1 hz.1
                · intro e' he
                  rcases List.mem_or_eq_of_mem_set he with he | rfl
                  · exact m5 e' he
                  · exact hc.2
                · intro e' he
                  rcases List.mem_or_eq_of_mem_set he with he | rfl
                  · exact hsr e' he
                  · exact hz.2
                · simp only [Nat.zero_add] at g1
                  simp only [execOp, ho, hky, m6, Instr.mapUpdate, Sem.run_bind, run_underlying hu, MapKept.run_getObj_map m3, MapKept.run_checkKey hd hsk, MapKept.run_findKey hd g1, Result.andThen_ok, hgk, MapKept.run_keyThatStays hsk, hset, Sem.run_pure]
            · cases h
          · cases h
        · cases h
      · cases h
    · cases h
  · cases h

/-! ### to take out -/
def evMdel (P : Program) (rows : Rows) (t : TypeId) (p q : PV) : Option (Nat × Row) :=
  match p with
  | .mp i => match rows i with
    | .map kd clock ents => match keyOf q with
      | some k => match tyOf P t with
        | some ty => match ty.k with
          | .map kt _ => if keyTy P kt kd = true ∧ k.kd = kd then some (i, .map kd clock (mdel k ents)) else none
          | _ => none
        | none => none
      | none => none
    | _ => none
  | _ => none

theorem op_mdel {P : Program} {o : Oper} {s : St} {t t' : TypeId} {x y : Operand} {r : Nat × Row} (ho : o.op = .call { callee := .builtin .delete, args := #[x, y], argTypes := #[t, t'] }) (h : evMdel P s.rows t (ev s.regs x) (ev s.regs y) = some r) : OpSound P o s (effSet r.1 r.2) := by
  unfold evMdel at h
  split at h
  · rename_i i hx
    split at h
    · rename_i kd clock ents hi
      split at h
      · rename_i k hk
        split at h
        · rename_i ty ht
          split at h
          · rename_i kt et htk
            have hu := tyOf_map ht htk
            split at h
            · rename_i hc
              simp only [Option.some.injEq] at h; subst h
              intro B β X w a hr _
              obtain ⟨d, hd, hd2⟩ := keyTy_spec hc.1
              have hxx := hr.ev x
              rw [hx] at hxx
              obtain ⟨b, es, m1, m2, m3, m4, m5, m6⟩ := map_row hr.mem hi hxx.1
              have hky := keyOf_val hk (hr.ev y).1
              have hsk := hd2 k hc.2
              have hsr := hr.mem.sr i
              rw [hi] at hsr
              have hlt := (Array.getElem?_eq_some_iff.1 m3).1
              have key : ∀ es' : Array MapEntry, repEs s.rows β w X (mdel k ents) es'.toList → (∀ e ∈ mdel k ents, e ∈ ents) → (Builtin.delete_ #[t, t'] o.type #[.map (some b), k.val]).run P w = .ok (.tuple #[]) (setBlk w b (.map es' clock)) →
                  ∃ v w' β' X', ((execOp a.eval o).run P w = .ok (.value v) w' ∨ ((execOp a.eval o).run P w = .ok .skip w' ∧ v = undef)) ∧
                    SRel B β' X' w' a (s.after (effSet i (.map kd clock (mdel k ents)))) ∧ repP (s.after (effSet i (.map kd clock (mdel k ents)))).rows β' w' X' (effSet i (.map kd clock (mdel k ents))).val v ∧ Sc (· < s.nx + (effSet i (.map kd clock (mdel k ents))).nn) (effSet i (.map kd clock (mdel k ents))).val := fun es' f1 f2 f4 => by
                obtain ⟨q1, q2, q3⟩ := Mem.write (w' := setBlk w b (.map es' clock)) hr.mem i b (.map es' clock) (.map kd clock (mdel k ents)) (by rw [hi]; simp [rblk, m1]) rfl rfl rfl rfl (by rw [hi]; exact rfl) (fun c hc => by simp [rblk, m1] at hc; exact hc.symm)
                  (fun hC hK => ⟨b, es', m1, m2, setBlk_get hlt, repEs_mono hK hC _ _ (fun e he => hsr e (f2 e he)) f1, fun e he => m5 e (f2 e he)⟩) (fun e he => hsr e (f2 e he))
                refine ⟨.tuple #[], _, β, X, .inl ?_, hr.of_mem q1 (Nat.le_refl _) (fun p v hpp h => repP_mono q2 q3 p v hpp h), by simp [effSet, repP], trivial⟩
                simp only [execOp, ho, resolve, invoke, builtin, Sem.run_bind, Sem.run_pure, Result.andThen_ok, List.map_toArray, List.map_cons, List.map_nil, hky, m6, f4]
              have hset : ∀ o' : Obj, (setObj b o').run P w = .ok () (setBlk w b o') := fun o' => by rw [MapKept.run_setObj_map o' m3]; rfl
              rcases find_es hc.2 hd2 ents es.toList 0 m4 m5 with ⟨g1, g2, g3, g4⟩ | ⟨j, e, n, p, g1, g2, g3, g4, g5, g6, g7⟩
              · rw [g4] at key ⊢
                refine key es m4 (fun e he => he) ?_
                simp [Builtin.delete_, run_underlying hu, MapKept.run_getObj_map m3, MapKept.run_checkKey hd hsk, MapKept.run_findKey hd g2, hset]
              · rw [g7] at key ⊢
                have hj : j < es.size := by
                  have := (List.getElem?_eq_some_iff.1 g2).1
                  simpa using this
                refine key (es.eraseIdxIfInBounds j) (by rw [eraseIdxIf es j hj]; exact repEs_erase m4 j) (fun e he => List.mem_of_mem_eraseIdx he) ?_
                simp only [Nat.zero_add] at g1
                simp [Builtin.delete_, run_underlying hu, MapKept.run_getObj_map m3, MapKept.run_checkKey hd hsk, MapKept.run_findKey hd g1, hset]
            · cases h
          · cases h
        · cases h
      · cases h
    · cases h
  · cases h

/-! ### to make -/
def kdOf (P : Program) (t : TypeId) : Option MKd :=
  match tyOf P t with
  | some ty => match ty.k with
    | .int k => some (.int k)
    | .string => some .str
    | _ => none
  | none => none
def evMmake (P : Program) (s : St) (t : TypeId) : Option Eff :=
  match tyOf P t with
  | some ty => match ty.k with
    | .map kt _ => match kdOf P kt with
      | some kd => some (effNew (.map kd 0 []) s.nx (.mp s.nx) True)
      | none => none
    | _ => none
  | none => none

theorem op_mmake {P : Program} {o : Oper} {s : St} {t : TypeId} {e : Eff} (ho : o.op = .makeMap t none) (he : evMmake P s t = some e) : OpSound P o s e := by
  unfold evMmake at he
  split at he
  · rename_i ty ht
    split at he
    · rename_i kt et hk
      split at he
      · rename_i kd hkd
        simp only [Option.some.injEq] at he; subst he
        intro B β X w a hr _
        have hm := hr.mem
        have hk : KeepX w X (wpush w (.map #[] 0)) (fun b => X b ∨ b = w.heap.size) := KeepX.alloc rfl
        have hC : ∀ i, i < s.nx → RowC (s.rows i) (upd s.rows s.nx (.map kd 0 []) i) ∧ (upd s.rows s.nx (.map kd 0 []) i ≠ .dead → upd β s.nx ⟨some ⟨w.heap.size, 0, none⟩, 0⟩ i = β i) := fun i hi => by
          rw [upd_ne _ _ (by omega), upd_ne _ _ (by omega)]; exact ⟨RowC.refl _, fun _ => rfl⟩
        have m1 := Mem.alloc (w' := wpush w (.map #[] 0)) hm (.map #[] 0) ⟨some ⟨w.heap.size, 0, none⟩, 0⟩ (.map kd 0 []) rfl rfl rfl rfl ⟨w.heap.size, #[], rfl, .inr rfl, wpush_get _ _, rfl, fun e he => by cases he⟩ (fun b hb => by simp [rblk] at hb; exact hb.symm) (fun e he => by cases he)
        refine ⟨.map (some w.heap.size), wpush w (.map #[] 0), _, _, .inl ?_, hr.of_mem m1 (by omega) (fun p v hp h => repP_mono hk hC p v hp h), ?_, by show s.nx < s.nx + 1; omega⟩
        · simp only [execOp, ho, Option.map_none, Instr.makeMap, Sem.run_bind, Result.andThen_ok, Sem.run_pure]
          simp [newObj, Sem.run, wpush]
        · unfold effNew repP
          intro _
          refine ⟨w.heap.size, ?_, rfl⟩
          rw [upd_same]
      · cases he
    · cases he
  · cases he
end Go.AM

namespace Go.AM
open Go

/-! ## operations that act, and stand in no drawn region -/
/-- a text that is gone through -/
def evRange (P : Program) (s : St) (t : TypeId) (p : PV) : Option Eff :=
  match p with
  | .d (.lit (.string str)) => if tyIs P t TK.isStr then some (effNew (.iter str 0) s.nx (.ptr s.nx 0) True) else none
  | .mp i => match s.rows i with
    | .map _ clock _ => if tyIs P t TK.isMap then some (effNew (.itm i clock [] clock) s.nx (.ptr s.nx 0) True) else none
    | _ => none
  | _ => none

def evNext (s : St) (p : PV) : Option Eff :=
  match p with
  | .ptr i 0 => match s.rows i with
    | .iter str pos => some (if pos < str.size then
        { ok := True, val := .tup [.d (.lit (.bool true)), .d (.lit (.int .i64 pos)), .d (.lit (.int .i32 (Utf8.decode str pos).1))], upds := [(i, .iter str (pos + (Utf8.decode str pos).2))], nn := 0 }
        else { ok := True, val := .tup [.d (.lit (.bool false))], upds := [], nn := 0 })
    | _ => none
  | _ => none

/-- the zero of a slice's elements -/
def zeroEl (P : Program) (t : TypeId) : Option (Nat × List DV) :=
  match tyOf P t with
  | some ty => match ty.k with
    | .slice e => match tyOf P e with
      | some ety => match ety.zero with
        | some z => if z.cells.size = ety.size ∧ z.cells.toList.all oc = true then some (ety.size, z.cells.toList.map .lit) else none
        | none => none
      | none => none
    | _ => none
  | none => none

def evClear (P : Program) (s : St) (t : TypeId) (p : PV) : Option Eff :=
  match p with
  | .win i off m => match s.rows i, zeroEl P t with
    | .own sz el, some (sz', z) => if sz' = sz then some { ok := True, val := .tup [], upds := [(i, .own sz (el.take off ++ List.replicate m z ++ el.drop (off + m)))], nn := 0 } else none
    | _, _ => none
  | _ => none

theorem op_range {P : Program} {o : Oper} {s : St} {t : TypeId} {x : Operand} {e : Eff} (ho : o.op = .range t x) (he : evRange P s t (ev s.regs x) = some e) : OpSound P o s e := by
  unfold evRange at he
  split at he
  · rename_i str hx
    split at he
    · rename_i ht
      simp only [Option.some.injEq] at he; subst he
      intro B β X w a hr _
      have hm := hr.mem
      have hk : KeepX w X (wpush w (.stringIter str 0)) (fun b => X b ∨ b = w.heap.size) := KeepX.alloc rfl
      have hC : ∀ i, i < s.nx → RowC (s.rows i) (upd s.rows s.nx (.iter str 0) i) ∧ (upd s.rows s.nx (.iter str 0) i ≠ .dead → upd β s.nx ⟨some ⟨w.heap.size, 0, none⟩, 0⟩ i = β i) := fun i hi => by
        rw [upd_ne _ _ (by omega), upd_ne _ _ (by omega)]; exact ⟨RowC.refl _, fun _ => rfl⟩
      have m1 := Mem.alloc (w' := wpush w (.stringIter str 0)) hm (.stringIter str 0) ⟨some ⟨w.heap.size, 0, none⟩, 0⟩ (.iter str 0) rfl rfl rfl rfl ⟨w.heap.size, rfl, .inr rfl, wpush_get _ _⟩ (fun b hb => by simp [rblk] at hb; exact hb.symm) trivial
      refine ⟨.pointer (some ⟨w.heap.size, 0, none⟩), wpush w (.stringIter str 0), _, _, .inl ?_, hr.of_mem m1 (by omega) (fun p v hp h => repP_mono hk hC p v hp h), ?_, by show s.nx < s.nx + 1; omega⟩
      · simp only [execOp, ho, hr.lit hx, Instr.range, Sem.run_bind, run_underlying (tyIs_string ht), Result.andThen_ok, Sem.run_pure]
        simp [newObj, Sem.run, wpush]
      · unfold effNew repP
        intro _
        refine ⟨w.heap.size, ?_, rfl⟩
        rw [upd_same]
    · cases he
  · rename_i i hx
    split at he
    · rename_i kd clock ents hi
      split at he
      · rename_i ht
        obtain ⟨kt, et, hu⟩ := tyIs_map ht
        simp only [Option.some.injEq] at he; subst he
        intro B β X w a hr _
        have hm := hr.mem
        have hxx := hr.ev x
        rw [hx] at hxx
        obtain ⟨mb, es, m1, m2, m3, m4, m5, m6⟩ := map_row hm hi hxx.1
        have hin : i < s.nx := hxx.2
        have hk : KeepX w X (wpush w (.mapIter (some mb) clock #[] clock)) (fun b => X b ∨ b = w.heap.size) := KeepX.alloc rfl
        have hC : ∀ j, j < s.nx → RowC (s.rows j) (upd s.rows s.nx (.itm i clock [] clock) j) ∧ (upd s.rows s.nx (.itm i clock [] clock) j ≠ .dead → upd β s.nx ⟨some ⟨w.heap.size, 0, none⟩, 0⟩ j = β j) := fun j hj => by
          rw [upd_ne _ _ (by omega), upd_ne _ _ (by omega)]; exact ⟨RowC.refl _, fun _ => rfl⟩
        have m1' := Mem.alloc (w' := wpush w (.mapIter (some mb) clock #[] clock)) hm (.mapIter (some mb) clock #[] clock) ⟨some ⟨w.heap.size, 0, none⟩, 0⟩ (.itm i clock [] clock) rfl rfl rfl rfl
          ⟨w.heap.size, mb, rfl, .inr rfl, wpush_get _ _, fun _ => by rw [upd_ne _ _ (by omega)]; exact m1⟩ (fun b hb => by simp [rblk] at hb; exact hb.symm) hin
        refine ⟨.pointer (some ⟨w.heap.size, 0, none⟩), wpush w (.mapIter (some mb) clock #[] clock), _, _, .inl ?_, hr.of_mem m1' (by omega) (fun p v hp h => repP_mono hk hC p v hp h), ?_, by show s.nx < s.nx + 1; omega⟩
        · simp only [execOp, ho, m6, Instr.range, Sem.run_bind, run_underlying hu, MapKept.run_getObj_map m3, Result.andThen_ok, Sem.run_pure]
          simp [newObj, Sem.run, wpush]
        · unfold effNew repP
          intro _
          refine ⟨w.heap.size, ?_, rfl⟩
          rw [upd_same]
      · cases he
    · cases he
  · cases he

theorem op_next {P : Program} {o : Oper} {s : St} {x : Operand} {e : Eff} (ho : o.op = .next x true) (he : evNext s (ev s.regs x) = some e) : OpSound P o s e := by
  unfold evNext at he
  split at he
  · rename_i i hx
    split at he
    · rename_i str pos hi
      simp only [Option.some.injEq] at he
      have hrow : ∀ {B : Base} {β : Nat → Loc} {X : Nat → Prop} {w : World} {a : Act}, SRel B β X w a s → ∃ b, (β i).a = some ⟨b, 0, none⟩ ∧ X b ∧ w.heap[b]? = some (.stringIter str pos) ∧ a.eval x = .pointer (some ⟨b, 0, none⟩) := by
        intro B β X w a hr
        have h1 := hr.mem.ok i
        rw [hi] at h1
        obtain ⟨b, h2, h3, h4⟩ := h1
        have h5 := (hr.ev x).1
        rw [hx] at h5
        unfold repP at h5
        obtain ⟨b', h6, h7⟩ := h5 (by rw [hi]; simp)
        rw [h2] at h6
        obtain rfl : b = b' := by simpa using h6
        exact ⟨b, h2, h3, h4, h7⟩
      by_cases hp : pos < str.size
      · rw [if_pos hp] at he
        subst he
        intro B β X w a hr _
        obtain ⟨b, h2, h3, h4, h7⟩ := hrow hr
        have hlt := (Array.getElem?_eq_some_iff.1 h4).1
        obtain ⟨q1, q2, q3⟩ := Mem.write (w' := setBlk w b (.stringIter str (pos + (Utf8.decode str pos).2))) hr.mem i b (.stringIter str (pos + (Utf8.decode str pos).2)) (.iter str (pos + (Utf8.decode str pos).2)) (by rw [hi]; simp [rblk, h2]) rfl rfl rfl rfl (by rw [hi]; trivial) (fun c hc => by simp [rblk, h2] at hc; exact hc.symm)
          (fun hC hK => ⟨b, h2, h3, setBlk_get hlt⟩) trivial
        refine ⟨.tuple #[.bool true, goInt pos, .int .i32 (Utf8.decode str pos).1], setBlk w b (.stringIter str (pos + (Utf8.decode str pos).2)), β, X, .inl ?_, hr.of_mem q1 (Nat.le_refl _) (fun p v hpp h => repP_mono q2 q3 p v hpp h), ?_, ?_⟩
        · simp only [execOp, ho, h7, Instr.next, Sem.run_bind]
          have hg : (getObj b).run P w = .ok (.stringIter str pos) w := by simp [getObj, Sem.run, h4]
          have hs : (setObj b (.stringIter str (pos + (Utf8.decode str pos).2))).run P w = .ok () (setBlk w b (.stringIter str (pos + (Utf8.decode str pos).2))) := by simp [setObj, Sem.run, setBlk, h4]
          simp only [hg, Result.andThen_ok, hp, if_true, hs, Sem.run_bind, Sem.run_pure]
        · unfold repP
          refine ⟨[.bool true, goInt pos, .int .i32 (Utf8.decode str pos).1], rfl, ?_⟩
          simp [repPs, repP, rep, goInt]
        · exact ⟨trivial, trivial, trivial, trivial⟩
      · rw [if_neg hp] at he
        subst he
        intro B β X w a hr _
        obtain ⟨b, h2, h3, h4, h7⟩ := hrow hr
        refine ⟨.tuple #[.bool false], w, β, X, .inl ?_, hr, ?_, ?_⟩
        · simp only [execOp, ho, h7, Instr.next, Sem.run_bind]
          have hg : (getObj b).run P w = .ok (.stringIter str pos) w := by simp [getObj, Sem.run, h4]
          simp only [hg, Result.andThen_ok, hp, if_false, Sem.run_pure]
        · unfold repP
          exact ⟨[.bool false], rfl, by simp [repPs, repP, rep]⟩
        · exact ⟨trivial, trivial⟩
    · cases he
  · cases he

theorem zeroEl_spec {P : Program} {t : TypeId} {sz : Nat} {z : List DV} (h : zeroEl P t = some (sz, z)) : ∃ e ety zv, P.underlying t = some (.slice e) ∧ tyOf P e = some ety ∧ ety.zero = some zv ∧ sz = ety.size ∧ z = zv.cells.toList.map .lit ∧ zv.cells.size = ety.size ∧ zv.cells.toList.all oc = true := by
  unfold zeroEl at h
  split at h
  · rename_i ty ht
    split at h
    · rename_i e hk
      split at h
      · rename_i ety he
        split at h
        · rename_i zv hz
          split at h
          · rename_i hc
            simp only [Option.some.injEq, Prod.mk.injEq] at h
            exact ⟨e, ety, zv, tyOf_slice ht hk, he, hz, h.1.symm, h.2.symm, hc.1, hc.2⟩
          · cases h
        · cases h
      · cases h
    · cases h
  · cases h

theorem zeroCells_eq (z : Array Value) (n : Nat) : (Builtin.zeroCells z n).toList = (List.replicate n z.toList).flatten := by
  have h := madeCells_take z n n (Nat.le_refl n)
  have e : Builtin.zeroCells z n = madeCells z (n * z.size) := rfl
  rw [e, ← h, List.take_of_length_le]
  simp [size_madeCells]

theorem op_clear {P : Program} {o : Oper} {s : St} {t : TypeId} {x : Operand} {e : Eff} (ho : o.op = .call { callee := .builtin .clear, args := #[x], argTypes := #[t] })
    (he : evClear P s t (ev s.regs x) = some e) : OpSound P o s e := by
  unfold evClear at he
  split at he
  · rename_i i off m hx
    split at he
    · rename_i sz el sz' z hi hz
      split at he
      · rename_i hsz
        subst hsz
        simp only [Option.some.injEq] at he; subst he
        intro B β X w a hr _
        obtain ⟨et, ety, zv, hu, he', hzz, rfl, rfl, hzs, hzo⟩ := zeroEl_spec hz
        have hxx := hr.ev x
        rw [hx] at hxx
        obtain ⟨hx1, hx2⟩ := hxx
        unfold repP at hx1
        obtain ⟨hle, hv⟩ := hx1.1 _ _ hi
        have hrow := hr.mem.ok i
        rw [hi] at hrow
        obtain ⟨r1, r2, r3⟩ := hrow
        have exec : ∀ {w' : World}, (Builtin.clear_ #[t] o.type #[a.eval x]).run P w = .ok (.tuple #[]) w' → (execOp a.eval o).run P w = .ok (.value (.tuple #[])) w' := by
          intro w' h
          simp only [execOp, ho, resolve, invoke, builtin, Sem.run_bind, Sem.run_pure, Result.andThen_ok, List.map_toArray, List.map_cons, List.map_nil, h]
        by_cases hm : m = 0
        · subst hm
          have e1 : el.take off ++ List.replicate 0 (zv.cells.toList.map DV.lit) ++ el.drop (off + 0) = el := by simp
          have e2 : upd s.rows i (.own ety.size el) = s.rows := by
            funext j; by_cases hj : j = i
            · subst hj; rw [upd_same, hi]
            · rw [upd_ne _ _ hj]
          refine ⟨.tuple #[], w, β, X, .inl (exec ?_), ?_, ?_, trivial⟩
          · generalize (if (β i).cap = off then (β i).a else (β i).a.map (·.add (off * ety.size))) = A at hv
            rw [hv]
            simp only [Builtin.clear_, Sem.run_bind]
            cases A <;> simp [run_underlying hu]
          · show SRel B β X w a ⟨s.N, s.kl, s.regs, upd s.rows i (.own ety.size (el.take off ++ List.replicate 0 (zv.cells.toList.map DV.lit) ++ el.drop (off + 0))), s.nx + 0⟩
            rw [e1, e2]; exact hr
          · unfold repP; exact ⟨[], rfl, by simp [repPs]⟩
        · rcases r3 with ⟨_, rfl⟩ | ⟨b, cs, ety', fr, r3, r4, r5, r6, r7, r8, r9⟩
          · simp at hle; omega
          · have hcap : ¬ (β i).cap = off := by omega
            rw [if_neg hcap, r4] at hv
            simp only [Option.map_some, Addr.add_lit, Nat.zero_add] at hv
            have hlt := (Array.getElem?_eq_some_iff.1 r6).1
            have hvl : ((List.replicate m zv.cells.toList).flatten).length = m * ety.size := by
              simp [hzs]
            have hzc : ∀ u ∈ (List.replicate m zv.cells.toList).flatten, oc u = true := by
              intro u hu
              rw [List.mem_flatten] at hu
              obtain ⟨l, hl, hul⟩ := hu
              rw [List.mem_replicate] at hl
              rw [hl.2] at hul
              exact List.all_eq_true.1 hzo u hul
            have hb : off * ety.size + m * ety.size ≤ el.length * ety.size := by rw [← Nat.add_mul]; exact Nat.mul_le_mul_right _ hle
            have hb2 : el.length * ety.size ≤ cs.size := by rw [r8]; exact Nat.mul_le_mul_right _ r1
            have hst := run_storeCells (P := P) (off := off * ety.size) ((List.replicate m zv.cells.toList).flatten) 0 cs w r6 r7 (by rw [hvl]; omega) hzc
            have hW := Mem.write (w' := setBlk w b (.cells (cs.toList.take (off * ety.size + 0) ++ (List.replicate m zv.cells.toList).flatten ++ cs.toList.drop (off * ety.size + 0 + (List.replicate m zv.cells.toList).flatten.length)).toArray ety' fr)) hr.mem i b _
              (.own ety.size (el.take off ++ List.replicate m (zv.cells.toList.map DV.lit) ++ el.drop (off + m))) (by rw [hi]; simp [rblk, r4]; omega) rfl rfl rfl rfl (by rw [hi]; exact ⟨rfl, by simp; omega⟩) (fun c hc => by simp [rblk, r4] at hc; exact hc.2.symm)
              (fun hC hK => ?_) trivial
            · obtain ⟨q1, q2, q3⟩ := hW
              refine ⟨.tuple #[], _, β, X, .inl (exec ?_), hr.of_mem q1 (Nat.le_refl _) (fun p v hpp h => repP_mono q2 q3 p v hpp h), ?_, trivial⟩
              · rw [hv]
                obtain ⟨m', rfl⟩ : ∃ m', m = m' + 1 := ⟨m - 1, by omega⟩
                have hz0 := tyOf_zero he' hzz w
                have hsc : ∀ w', (storeCells ⟨b, off * ety.size, none⟩ (List.replicate (m' + 1) zv.cells.toList).flatten).run P w = .ok () w' → (do storeCells ⟨b, off * ety.size, none⟩ (Builtin.zeroCells (← zeroValue et).cells (m' + 1)).toList; pure (Value.tuple #[]) : Sem Value).run P w = .ok (.tuple #[]) w' := by
                  intro w' h
                  simp only [Sem.run_bind, hz0, Result.andThen_ok, zeroCells_eq]
                  rw [h]
                  simp only [Result.andThen_ok, Sem.run_pure]
                refine Eq.trans ?_ (hsc _ hst)
                simp [Builtin.clear_, run_underlying hu]
              · unfold repP; exact ⟨[], rfl, by simp [repPs]⟩
            · have hlen : (el.take off ++ List.replicate m (zv.cells.toList.map DV.lit) ++ el.drop (off + m)).length = el.length := by simp; omega
              refine ⟨by rw [hlen]; exact r1, r2, .inr ⟨b, _, ety', fr, r3, r4, r5, setBlk_get hlt, ?_, ?_, ?_⟩⟩
              · exact ⟨r7.1, fun j hj => r7.2 j (by simp [hvl] at hj; omega)⟩
              · simp only [Nat.add_zero, hvl, List.size_toArray, List.length_append, List.length_take, List.length_drop, Array.length_toList, r8] at *
                omega
              · rw [hlen]
                have t1 := repss_mono hK ety.size _ _ (repss_take off r9)
                have t3 := repss_mono hK ety.size _ _ (repss_drop (off + m) r9)
                have t2 := repss_lits (setBlk w b (.cells (cs.toList.take (off * ety.size + 0) ++ (List.replicate m zv.cells.toList).flatten ++ cs.toList.drop (off * ety.size + 0 + (List.replicate m zv.cells.toList).flatten.length)).toArray ety' fr)) X zv.cells.toList hzo m
                rw [show zv.cells.toList.length = ety.size from by simpa using hzs] at t2
                have t4 := repss_append (repss_append t1 t2) t3
                have e1 : ∀ (A : List Value), A.length = cs.size → List.take (el.length * ety.size) (A.take (off * ety.size) ++ (List.replicate m zv.cells.toList).flatten ++ A.drop (off * ety.size + m * ety.size)) = (A.take (el.length * ety.size)).take (off * ety.size) ++ (List.replicate m zv.cells.toList).flatten ++ (A.take (el.length * ety.size)).drop ((off + m) * ety.size) := by
                  intro A hA
                  rw [List.take_append, List.take_append, List.take_of_length_le (l := A.take (off * ety.size)) (by simp; omega)]
                  have hA1 : (A.take (off * ety.size)).length = off * ety.size := by simp; omega
                  rw [hA1, List.take_of_length_le (l := (List.replicate m zv.cells.toList).flatten) (by rw [hvl]; omega), List.length_append, hA1, hvl, List.take_take, Nat.min_eq_left (by omega), Nat.add_mul, List.drop_take]
                simp only [Nat.add_zero, hvl]
                rw [e1 cs.toList (by simp)]
                simp only [Nat.add_zero, hvl] at t4
                exact t4
      · cases he
    · cases he
  · cases he

/-- all of them -/
def evX (P : Program) (o : Oper) (s : St) : Option Eff :=
  match o.op with
  | .range t x => evRange P s t (ev s.regs x)
  | .next x true => evNext s (ev s.regs x)
  | .makeMap t none => evMmake P s t
  | .call c => match c.callee, c.args.toList, c.argTypes.toList with
    | .builtin .clear, [x], [t] => evClear P s t (ev s.regs x)
    | _, _, _ => none
  | _ => none

theorem toList_eq {α : Type} {a : Array α} {l : List α} (h : a.toList = l) : a = l.toArray := by rw [← h]

theorem evX_sound {P : Program} {o : Oper} {s : St} {e : Eff} (h : evX P o s = some e) : OpSound P o s e := by
  unfold evX at h
  split at h
  · rename_i t x ho; exact op_range ho h
  · rename_i x ho; exact op_next ho h
  · rename_i t ho; exact op_mmake ho h
  · rename_i c ho
    obtain ⟨callee, args, argTypes⟩ := c
    split at h
    · rename_i x t h1 h2 h3
      simp only at h1 h2 h3
      obtain rfl := toList_eq h2
      obtain rfl := toList_eq h3
      subst h1
      exact op_clear ho h
    · cases h
  · cases h

/-! ## a field of a value -/
def evFld (P : Program) (t : TypeId) (p : PV) (f : Nat) : Option PV :=
  match p with
  | .d (.agg ds) => match tyOf P t with
    | some ty => match ty.k with
      | .struct fs => match fs[f]? with
        | some (off, ft) => match tyOf P ft with
          | some fty => if fty.k.agg then some (.d (.agg ((ds.drop off).take fty.size))) else match ds[off]? with | some q => some (.d q) | none => none
          | none => none
        | none => none
      | _ => none
    | none => none
  | _ => none

theorem op_field {P : Program} {o : Oper} {s : St} {t : TypeId} {x : Operand} {f : Nat} {q : PV} (ho : o.op = .field t x f) (h : evFld P t (ev s.regs x) f = some q) :
    OpSound P o s (Eff.pureIf True q) := by
  unfold evFld at h
  split at h
  · rename_i ds hx
    split at h
    · rename_i ty ht
      split at h
      · rename_i fs hk
        split at h
        · rename_i off ft hf
          split at h
          · rename_i fty hft
            obtain ⟨gs, hu, hfs⟩ := tyOf_struct ht hk
            rw [hfs, List.getElem?_map, Option.map_eq_some_iff] at hf
            obtain ⟨g, hg, hg'⟩ := hf
            simp only [Prod.mk.injEq] at hg'
            obtain ⟨rfl, rfl⟩ := hg'
            have hg2 : gs[f]? = some g := by simpa using hg
            refine sound_pure fun B β X w a hr _ => ?_
            have hv := (hr.ev x).1
            rw [hx] at hv
            unfold repP rep at hv
            obtain ⟨vs, hvs, hrep⟩ := hv
            split at h
            · rename_i hagg
              simp only [Option.some.injEq] at h; subst h
              refine ⟨.agg ((vs.drop g.offset).take fty.size).toArray, ?_, ?_, trivial⟩
              · simp only [execOp, ho, hvs, Instr.field, asAgg, part, Sem.run_bind, run_underlying hu, Result.andThen_ok, hg2, Sem.run_pure, tyOf_agg hft, hagg, if_true, tyOf_size hft, List.extract_toArray, List.extract_eq_take_drop, Nat.add_sub_cancel_left]
              · unfold repP rep
                exact ⟨_, rfl, reps_take _ (reps_drop _ hrep)⟩
            · rename_i hagg
              split at h
              · rename_i d hd
                simp only [Option.some.injEq] at h; subst h
                obtain ⟨u, hu1, _, hu2⟩ := reps_get hrep _ _ hd
                refine ⟨u, ?_, ?_, trivial⟩
                · simp only [execOp, ho, hvs, Instr.field, asAgg, part, Sem.run_bind, run_underlying hu, Result.andThen_ok, hg2, Sem.run_pure, tyOf_agg hft, hagg, List.getElem?_toArray, hu1]
                  rfl
                · unfold repP; exact hu2
              · cases h
          · cases h
        · cases h
      · cases h
    · cases h
  · cases h

/-! ## what an interface holds -/
def evTA (P : Program) (p : PV) (t : TypeId) : Option PV :=
  match p with
  | .ifc t' q => if t' = t ∧ notIface P t = true then some q else none
  | _ => none

theorem op_typeAssert {P : Program} {o : Oper} {s : St} {x : Operand} {xt t : TypeId} {q : PV} (ho : o.op = .typeAssert x xt t false) (h : evTA P (ev s.regs x) t = some q) :
    OpSound P o s (Eff.pureIf True q) := by
  unfold evTA at h
  split at h
  · rename_i t' q' hx
    split at h
    · rename_i hc
      obtain ⟨rfl, hn⟩ := hc
      simp only [Option.some.injEq] at h; subst h
      refine sound_pure fun B β X w a hr _ => ?_
      obtain ⟨h1, h2⟩ := hr.ev x
      rw [hx] at h1 h2
      unfold repP at h1
      obtain ⟨u, hu, hq⟩ := h1
      refine ⟨u, ?_, hq, h2⟩
      unfold notIface at hn
      split at hn
      · rename_i ty ht
        obtain ⟨i, d, g1, g2, g3, _⟩ := tyOf_spec ht
        split at hn
        · cases hn
        · rename_i hk
          rw [g3] at hk
          simp only [execOp, ho, hu, Instr.typeAssert, Sem.run_bind, run_underlying g2, Result.andThen_ok]
          cases d <;> first | (simp [tkOf] at hk; done) | (simp only [if_true]; rfl)
      · cases hn
    · cases h
  · cases h

/-- a pointer type's method: its function, whether it takes the pointer, and what is pointed at -/
def methRow (P : Program) (t : TypeId) (name : String) : Option (FuncId × Bool × TypeId) :=
  match P.info? t with
  | some i => match i.methods.find? (·.name == name) with
    | some m => if m.path.toList.isEmpty then match m.func, P.underlying t with
        | some (f, b), some (.pointer e) => some (f, b, e)
        | _, _ => none
      else none
    | none => none
  | none => none

/-- the method that a call through an interface reaches, and what it takes as its receiver -/
def methOf (P : Program) (rows : Rows) (t : TypeId) (q : PV) (name : String) : Option (FuncId × PV) :=
  match methRow P t name with
  | some (f, true, _) => some (f, q)
  | some (f, false, e) => match q with
    | .ptr i off => if alive (rows i) then (evLoad P rows e (.ptr i off)).map fun r => (f, r) else none
    | _ => none
  | none => none

theorem methRow_spec {P : Program} {t : TypeId} {name : String} {f : FuncId} {b : Bool} {e : TypeId} (h : methRow P t name = some (f, b, e)) :
    ∃ i m, P.info? t = some i ∧ i.methods.find? (·.name == name) = some m ∧ m.path.toList = [] ∧ m.func = some (f, b) ∧ P.underlying t = some (.pointer e) := by
  unfold methRow at h
  split at h
  · rename_i i hi
    split at h
    · rename_i m hf
      split at h
      · rename_i hp
        split at h
        · rename_i f' b' e' hfn hu
          simp only [Option.some.injEq, Prod.mk.injEq] at h
          obtain ⟨rfl, rfl, rfl⟩ := h
          exact ⟨i, m, hi, hf, List.isEmpty_iff.1 hp, hfn, hu⟩
        · cases h
      · cases h
    · cases h
  · cases h

theorem methOf_ok {P : Program} {B : Base} {β : Nat → Loc} {X : Nat → Prop} {w : World} {rows : Rows} {nx : Nat} {t : TypeId} {q r : PV} {name : String} {f : FuncId} {u : Value} (hm : Mem B β X w rows nx) (h : methOf P rows t q name = some (f, r))
    (hq : repP rows β w X q u) (hs : Sc (· < nx) q) (n : Nat) : ∃ v, (method (n + 1) t u name).run P w = .ok (f, v) w ∧ repP rows β w X r v ∧ Sc (· < nx) r := by
  unfold methOf at h
  split at h
  · rename_i f' e hr
    obtain ⟨i, m, hi, hf, hpl, hfn, hu⟩ := methRow_spec hr
    have hti : (typeInfo t).run P w = .ok i w := by simp [typeInfo, hi]
    simp only [Option.some.injEq, Prod.mk.injEq] at h
    obtain ⟨rfl, rfl⟩ := h
    refine ⟨u, ?_, hq, hs⟩
    simp only [method, Sem.run_bind, hti, Result.andThen_ok, hf, hpl, follow, Sem.run_pure, hfn, receiverAt, run_underlying hu, Place.get]
  · rename_i f' e hr
    obtain ⟨i, m, hi, hf, hpl, hfn, hu⟩ := methRow_spec hr
    have hti : (typeInfo t).run P w = .ok i w := by simp [typeInfo, hi]
    split at h
    · rename_i j off
      split at h
      · rename_i hal
        simp only [Option.map_eq_some_iff, Prod.mk.injEq] at h
        obtain ⟨r', hl, rfl, rfl⟩ := h
        obtain ⟨v, hv1, hv2, hv3⟩ := evLoad_ok hm hq hl
        refine ⟨v, ?_, hv2, hv3⟩
        have hne : rows j ≠ .dead := fun hd => by rw [hd] at hal; simp [alive] at hal
        unfold repP at hq
        obtain ⟨b, hb, rfl⟩ := hq hne
        have hv1' : (loadVar e (⟨b, off, none⟩ : Addr)).run P w = .ok v w := by
          simpa only [Instr.loadAt, Instr.sureAddr, Sem.run_bind, Sem.run_pure, Result.andThen_ok] using hv1
        have hpe : m.path.isEmpty = true := by rw [← Array.isEmpty_toList, hpl]; rfl
        have hw : ∀ (a : Addr) (s s' : String), Builtin.ssaWrapNilChk_ #[t] t #[.pointer (some a), strVal s, strVal s'] = pure (.pointer (some a)) := fun _ _ _ => rfl
        simp only [method, Sem.run_bind, hti, Result.andThen_ok, hf, hpl, follow, Sem.run_pure, hfn, receiverAt, run_underlying hu, Place.get, hpe, if_true, hw, asAddr, hv1']
      · cases h
    · cases h
  · cases h
end Go.AM

namespace Go.AM
open Go

/-- the operations that the machine knows, but for calls of Go functions -/
def evOp (P : Program) (o : Oper) (s : St) : Option Eff :=
  match o.op with
  | .move x => some (Eff.pureIf True (ev s.regs x))
  | .assign x => some (Eff.pureIf True (ev s.regs x))
  | .pick c x y => match ev s.regs c with
    | .d (.lit (.bool t)) => some (Eff.pureIf True (if t then ev s.regs x else ev s.regs y))
    | _ => none
  | .alloc t => evAlloc P s t
  | .box _ x => evBox s (ev s.regs x)
  | .build t parts => (evBuild P s t (parts.toList.map fun x => (x.1, ev s.regs x.2))).map (Eff.pureIf True)
  | .buildSlice t n parts => evBS P s t n (parts.toList.map fun x => (x.1, ev s.regs x.2))
  | .load t x => (evLoad P s.rows t (ev s.regs x)).map (Eff.pureIf True)
  | .store t x y => (evStore P s.rows t (ev s.regs x) (ev s.regs y)).map fun r => effSet r.1 r.2
  | .nilCheck x => (evNil s.rows (ev s.regs x)).map (Eff.pureIf True)
  | .binOp op t x y _ => (evBinP P op t s.rows (ev s.regs x) (ev s.regs y)).map fun r => Eff.pureIf r.1 r.2
  | .unOp op _ x => match ev s.regs x with
    | .d (.lit u) => (evUn op u).map fun v => Eff.pureIf True (.d (.lit v))
    | _ => none
  | .convert a b x => match evConv P s.rows a b (ev s.regs x) with
    | some q => some (Eff.pureIf True q)
    | none => (evConvId P s.rows a b (ev s.regs x)).map (Eff.pureIf True)
  | .makeSlice t x y => evMake P s t (ev s.regs x) (ev s.regs y)
  | .makeInterface t x => if notIface P t then some (Eff.pureIf True (.ifc t (ev s.regs x))) else none
  | .makeFunc fn f c => some (Eff.pureIf True (.clo fn (f.toList.map (ev s.regs)) (c.toList.map (ev s.regs))))
  | .slice t x lo hi mx => match mx, bdV s.regs lo, bdV s.regs hi with
    | none, some l, some h => (evSl P s.rows t (ev s.regs x) l h).map fun r => Eff.pureIf r.1 r.2
    | _, _, _ => none
  | .fieldAddr t x f => (evField P s.rows t (ev s.regs x) f).map (Eff.pureIf True)
  | .indexAddr t x y => match ev s.regs y with
    | .d (.lit (.int _ n)) => (evIdx P s.rows t (ev s.regs x) n).map fun r => Eff.pureIf r.1 r.2
    | _ => none
  | .index t x y => match ev s.regs x, ev s.regs y with
    | .d (.lit (.string str)), .d (.lit (.int _ n)) => if tyIs P t TK.isStr then some (Eff.pureIf (0 ≤ n ∧ n < str.size) (.d (.lit (.int .u8 (str.data.toList.getD n.toNat 0).toNat)))) else none
    | _, _ => none
  | .extract x i => (evExtract (ev s.regs x) i).map (Eff.pureIf True)
  | .field t x f => (evFld P t (ev s.regs x) f).map (Eff.pureIf True)
  | .typeAssert x _ t false => (evTA P (ev s.regs x) t).map (Eff.pureIf True)
  | .lookup t x y ok => (evLook P s.rows t (ev s.regs x) (ev s.regs y) ok).map (Eff.pureIf True)
  | .mapUpdate t x y z => (evMset P s.rows t (ev s.regs x) (ev s.regs y) (ev s.regs z)).map fun r => effSet r.1 r.2
  | .call c => match c.callee, c.args.toList, c.argTypes.toList with
    | .builtin .len, [x], [t] => (evLen P s.rows t (ev s.regs x)).map fun n => Eff.pureIf True (.d (.lit (.int .i64 n)))
    | .builtin .min, [x, y], _ => match ev s.regs x, ev s.regs y with
      | .d (.lit (.int k m)), .d (.lit (.int _ n)) => some (Eff.pureIf True (.d (.lit (.int k (if n < m then n else m)))))
      | _, _ => none
    | .builtin .max, [x, y], _ => match ev s.regs x, ev s.regs y with
      | .d (.lit (.int k m)), .d (.lit (.int _ n)) => some (Eff.pureIf True (.d (.lit (.int k (if m < n then n else m)))))
      | _, _ => none
    | .builtin .append, [x, y], [t, t'] => evApp P s t t' (ev s.regs x) (ev s.regs y)
    | .builtin .delete, [x, y], [t, _] => (evMdel P s.rows t (ev s.regs x) (ev s.regs y)).map fun r => effSet r.1 r.2
    | _, _, _ => none
  | _ => none

theorem evOp_sound {P : Program} {o : Oper} {s : St} {e : Eff} (h : evOp P o s = some e) : OpSound P o s e := by
  unfold evOp at h
  split at h
  · rename_i x ho; simp only [Option.some.injEq] at h; subst h; exact op_move (.inl ho)
  · rename_i x ho; simp only [Option.some.injEq] at h; subst h; exact op_move (.inr ho)
  · rename_i c x y ho
    split at h
    · rename_i t hc; simp only [Option.some.injEq] at h; subst h; exact op_pick ho hc
    · cases h
  · rename_i t ho; exact evAlloc_ok ho h
  · rename_i t x ho; exact evBox_ok ho h
  · rename_i t parts ho
    simp only [Option.map_eq_some_iff] at h
    obtain ⟨q, h1, rfl⟩ := h
    exact evBuild_ok ho h1
  · rename_i t n parts ho; exact op_buildSlice ho h
  · rename_i t x ho
    simp only [Option.map_eq_some_iff] at h
    obtain ⟨q, h1, rfl⟩ := h
    exact op_load ho h1
  · rename_i t x y ho
    simp only [Option.map_eq_some_iff] at h
    obtain ⟨⟨i, r⟩, h1, rfl⟩ := h
    exact op_store ho h1
  · rename_i x ho
    simp only [Option.map_eq_some_iff] at h
    obtain ⟨q, h1, rfl⟩ := h
    exact op_nil ho h1
  · rename_i op t x y t' ho
    simp only [Option.map_eq_some_iff] at h
    obtain ⟨⟨c, q⟩, h1, rfl⟩ := h
    exact op_bin ho h1
  · rename_i op t x ho
    split at h
    · rename_i u hu
      simp only [Option.map_eq_some_iff] at h
      obtain ⟨q, h1, rfl⟩ := h
      exact op_un ho hu h1
    · cases h
  · rename_i a b x ho
    split at h
    · rename_i q hq
      simp only [Option.some.injEq] at h; subst h
      exact op_convert ho hq
    · simp only [Option.map_eq_some_iff] at h
      obtain ⟨q, h1, rfl⟩ := h
      exact op_convId ho h1
  · rename_i t x y ho; exact op_make ho h
  · rename_i t x ho
    split at h
    · rename_i hn; simp only [Option.some.injEq] at h; subst h; exact op_makeInterface ho hn
    · cases h
  · rename_i fn f c ho; simp only [Option.some.injEq] at h; subst h; exact op_makeFunc ho
  · rename_i t x lo hi mx ho
    split at h
    · rename_i l h' hl hh
      simp only [Option.map_eq_some_iff] at h
      obtain ⟨⟨c, q⟩, h1, rfl⟩ := h
      exact op_slice ho hl hh h1
    · cases h
  · rename_i t x f ho
    simp only [Option.map_eq_some_iff] at h
    obtain ⟨q, h1, rfl⟩ := h
    exact op_fieldAddr ho h1
  · rename_i t x y ho
    split at h
    · rename_i k n hy
      simp only [Option.map_eq_some_iff] at h
      obtain ⟨⟨c, q⟩, h1, rfl⟩ := h
      exact op_indexAddr ho hy h1
    · cases h
  · rename_i t x y ho
    split at h
    · rename_i str k n hx hy
      split at h
      · rename_i ht; simp only [Option.some.injEq] at h; subst h; exact op_index ho hx hy ht
      · cases h
    · cases h
  · rename_i x i ho
    simp only [Option.map_eq_some_iff] at h
    obtain ⟨q, h1, rfl⟩ := h
    exact op_extract ho h1
  · rename_i t x f ho
    simp only [Option.map_eq_some_iff] at h
    obtain ⟨q, h1, rfl⟩ := h
    exact op_field ho h1
  · rename_i x xt t ho
    simp only [Option.map_eq_some_iff] at h
    obtain ⟨q, h1, rfl⟩ := h
    exact op_typeAssert ho h1
  · rename_i t x y ok ho
    simp only [Option.map_eq_some_iff] at h
    obtain ⟨q, h1, rfl⟩ := h
    exact op_look ho h1
  · rename_i t x y z ho
    simp only [Option.map_eq_some_iff] at h
    obtain ⟨q, h1, rfl⟩ := h
    exact op_mset ho h1
  · rename_i c ho
    obtain ⟨callee, args, argTypes⟩ := c
    split at h
    · rename_i x t h1 h2 h3
      simp only at h1 h2 h3
      obtain rfl := toList_eq h2
      obtain rfl := toList_eq h3
      subst h1
      simp only [Option.map_eq_some_iff] at h
      obtain ⟨q, h1, rfl⟩ := h
      exact op_len ho h1
    · rename_i x y h1 h2
      simp only at h1 h2
      obtain rfl := toList_eq h2
      subst h1
      split at h
      · rename_i k m k' n hx hy
        simp only [Option.some.injEq] at h; subst h
        exact op_min ho hx hy
      · cases h
    · rename_i x y h1 h2
      simp only at h1 h2
      obtain rfl := toList_eq h2
      subst h1
      split at h
      · rename_i k m k' n hx hy
        simp only [Option.some.injEq] at h; subst h
        exact op_max ho hx hy
      · cases h
    · rename_i x y t t' h1 h2 h3
      simp only at h1 h2 h3
      obtain rfl := toList_eq h2
      obtain rfl := toList_eq h3
      subst h1
      exact op_append ho h
    · rename_i x y t t' h1 h2 h3
      simp only at h1 h2 h3
      obtain rfl := toList_eq h2
      obtain rfl := toList_eq h3
      subst h1
      simp only [Option.map_eq_some_iff] at h
      obtain ⟨q, h1, rfl⟩ := h
      exact op_mdel ho h1
    · cases h
  · cases h

/-! ## calls -/
/-- a call in the caller's own numbers -/
def ACall (P : Program) (f : FuncId) (ps : List PV) (rows : Rows) (nx : Nat) (K : PV → Rows → Nat → Prop) : Prop :=
  ∀ B β X w vs, Mem B β X w rows nx → repPs rows β w X ps vs → Scs (· < nx) ps →
    Calls P f vs.toArray w fun e w' => ∃ v r rows' nx' β' X', e = .returned v ∧ K r rows' nx' ∧ Mem B β' X' w' rows' nx' ∧ repP rows' β' w' X' r v ∧ Sc (· < nx') r ∧ nx ≤ nx' ∧
      ∀ p u, Sc (· < nx) p → repP rows β w X p u → repP rows' β' w' X' p u

theorem ACall.mono {P : Program} {f : FuncId} {ps : List PV} {rows : Rows} {nx : Nat} {K K' : PV → Rows → Nat → Prop} (h : ACall P f ps rows nx K) (hk : ∀ r rows' nx', K r rows' nx' → K' r rows' nx') :
    ACall P f ps rows nx K' := fun B β X w vs hm hp hs =>
  (h B β X w vs hm hp hs).mono fun _ _ ⟨v, r, rows', nx', β', X', h1, h2, h3⟩ => ⟨v, r, rows', nx', β', X', h1, hk _ _ _ h2, h3⟩

def isFn (P : Program) (f : FuncId) : Bool := match P.funcs[f]? with | some fn => fn.name != "runtime.NumGoroutine" && fn.body.isSome | none => false

theorem callFunc_enter {P : Program} {f : FuncId} {args : Array Value} {w : World} (h : isFn P f = true) : (callFunc f args).run P w = .ok (.enter f args) w := by
  unfold isFn at h
  split at h
  · rename_i fn hf
    simp only [Bool.and_eq_true, bne_iff_ne, ne_eq] at h
    cases hb : fn.body with
    | none => simp [hb] at h
    | some c => simp [callFunc, program, Sem.run, hf, h.1, hb]
  · cases h

/-- the function that a call calls, and what it hands over -/
def calleeOf (s : St) (c : Call) : Option (FuncId × List PV) :=
  match c.callee with
  | .value x => match ev s.regs x with
    | .clo (.func f) first cap => some (f, first ++ c.args.toList.map (ev s.regs) ++ cap)
    | _ => none
  | _ => none

/-- what a call through an interface calls, and what it hands over -/
def invOf (P : Program) (s : St) (o : Op) : Option (FuncId × List PV) :=
  match o with
  | .call c => match c.callee with
    | .invoke x name => match ev s.regs x with
      | .ifc t q => match methOf P s.rows t q name with
        | some (f, r) => some (f, r :: c.args.toList.map (ev s.regs))
        | none => none
      | _ => none
    | _ => none
  | _ => none

/-- an operation that acts -/
def xop (P : Program) (o : Oper) (s : St) (K : St → Prop) : Prop :=
  match evX P o s with
  | some e => e.ok ∧ (∀ d, o.dst = some d → d < s.N) ∧ K ((s.after e).put o.dst e.val)
  | none => match invOf P s o.op with
    | some (f, ps) => isFn P f = true ∧ (∀ d, o.dst = some d → d < s.N) ∧ ACall P f ps s.rows s.nx fun r rows' nx' => K ({ s with rows := rows', nx := nx' }.put o.dst r)
    | none => False

/-- one operation -/
def aop (P : Program) (o : Oper) (s : St) (K : St → Prop) : Prop :=
  match evOp P o s with
  | some e => e.ok ∧ (∀ d, o.dst = some d → d < s.N) ∧ K ((s.after e).put o.dst e.val)
  | none => match o.op with
    | .call c => match calleeOf s c with
      | some (f, ps) => isFn P f = true ∧ (∀ d, o.dst = some d → d < s.N) ∧ ACall P f ps s.rows s.nx fun r rows' nx' => K ({ s with rows := rows', nx := nx' }.put o.dst r)
      | none => xop P o s K
    | _ => xop P o s K

theorem SRel.put {B : Base} {β : Nat → Loc} {X : Nat → Prop} {w : World} {a : Act} {s : St} (h : SRel B β X w a s) {d : Option Nat} {p : PV} {v : Value} (hp : repP s.rows β w X p v) (hs : Sc (· < s.nx) p)
    (hd : ∀ d', d = some d' → d' < s.N) : SRel B β X w (a.put d v) (s.put d p) := by
  cases d with
  | none => exact h
  | some d =>
    have hlt := hd d rfl
    refine ⟨h.mem, h.defers, by simp [Act.put, St.put, h.size], h.kl, fun t => ?_, fun t => ?_⟩
    · simp only [St.put, Act.put]
      by_cases ht : t = d
      · subst ht
        rw [upd_same]
        have : (a.tmps.setIfInBounds t v).getD t undef = v := by
          rw [Array.getD_eq_getD_getElem?, Array.getElem?_setIfInBounds, if_pos rfl, if_pos (by rw [h.size]; exact hlt)]; rfl
        rw [this]; exact hp
      · rw [upd_ne _ _ ht]
        have : (a.tmps.setIfInBounds d v).getD t undef = a.tmps.getD t undef := by
          rw [Array.getD_eq_getD_getElem?, Array.getD_eq_getD_getElem?, Array.getElem?_setIfInBounds, if_neg (Ne.symm ht)]
        rw [this]; exact h.rg t
    · simp only [St.put]
      by_cases ht : t = d
      · subst ht; rw [upd_same]; exact hs
      · rw [upd_ne _ _ ht]; exact h.sc t

theorem eff_sound {P : Program} {o : Oper} {s : St} {K : St → Prop} {e : Eff} (hsnd : OpSound P o s e) (hok : e.ok) (hd : ∀ d, o.dst = some d → d < s.N) (hk : K ((s.after e).put o.dst e.val)) {B : Base} {β : Nat → Loc} {X : Nat → Prop} {a : Act} {w : World} (hr : SRel B β X w a s) {K' : Act → World → Prop} {Q : Exit → Act → World → Prop}
    (hK : ∀ s' a' w', K s' → Sat B s' a' w' → K' a' w') : o.wp P a w K' Q := by
  obtain ⟨v, w', β', X', h1, h2, h3, h4⟩ := hsnd B β X w a hr hok
  have hput := h2.put (d := o.dst) h3 h4 (fun d hd' => hd d hd')
  unfold Oper.wp
  rcases h1 with h1 | ⟨h1, rfl⟩
  · rw [h1]; exact hK _ _ _ hk ⟨β', X', hput⟩
  · rw [h1]; exact hK _ _ _ hk ⟨β', X', hput⟩

theorem xop_sound {P : Program} {o : Oper} {s : St} {K : St → Prop} (h : xop P o s K) {B : Base} {β : Nat → Loc} {X : Nat → Prop} {a : Act} {w : World} (hr : SRel B β X w a s) {K' : Act → World → Prop} {Q : Exit → Act → World → Prop}
    (hK : ∀ s' a' w', K s' → Sat B s' a' w' → K' a' w') : o.wp P a w K' Q := by
  unfold xop at h
  split at h
  · rename_i e he
    exact eff_sound (evX_sound he) h.1 h.2.1 h.2.2 hr hK
  · split at h
    · rename_i f ps hi
      obtain ⟨hf, hd, hcall⟩ := h
      unfold invOf at hi
      split at hi
      · rename_i c ho
        split at hi
        · rename_i x name hx
          split at hi
          · rename_i t q hev
            split at hi
            · rename_i f' r hm
              simp only [Option.some.injEq, Prod.mk.injEq] at hi
              obtain ⟨rfl, rfl⟩ := hi
              have hxx := hr.ev x
              rw [hev] at hxx
              obtain ⟨hx1, hx2⟩ := hxx
              unfold repP at hx1
              obtain ⟨u, hu, hq⟩ := hx1
              obtain ⟨v, g1, g2, g3⟩ := methOf_ok hr.mem hm hq hx2 (P.types.size + Made.depth - 1)
              obtain ⟨e1, e2⟩ := evs_ok hr c.args.toList
              have hdep : P.types.size + Made.depth - 1 + 1 = P.types.size + Made.depth := by
                have : 0 < Made.depth := by decide
                omega
              rw [hdep] at g1
              have hrun : (execOp a.eval o).run P w = .ok (.enter f' (v :: c.args.toList.map a.eval).toArray) w := by
                have hA : #[a.eval x] ++ c.args.map a.eval = (Value.iface t u :: c.args.toList.map a.eval).toArray := by
                  rw [hu]; apply Array.toList_inj.1; simp
                have hB : #[v] ++ ((Value.iface t u :: c.args.toList.map a.eval).toArray).extract 1 = (v :: c.args.toList.map a.eval).toArray := by
                  apply Array.toList_inj.1; simp
                  rw [List.take_of_length_le (by simp)]
                have hpr : (program).run P w = .ok P w := rfl
                simp only [execOp, ho, resolve, hx, Sem.run_bind, Sem.run_pure, Result.andThen_ok, hA, invoke, List.getElem?_toArray, List.getElem?_cons_zero, callMethod, hpr, g1, hB, callFunc_enter hf]
              unfold Oper.wp
              rw [hrun]
              have hargs : repPs s.rows β w X (r :: c.args.toList.map (AM.ev s.regs)) (v :: c.args.toList.map a.eval) := by
                unfold repPs; exact ⟨_, _, rfl, g2, e1⟩
              refine (hcall B β X w _ hr.mem hargs ⟨g3, e2⟩).mono fun e w' ⟨v', r', rows', nx', β', X', q1, q2, q3, q4, q5, q6, q7⟩ => ?_
              subst q1
              exact hK _ _ _ q2 ⟨β', X', (hr.of_mem q3 q6 q7).put q4 q5 hd⟩
            · cases hi
          · cases hi
        · cases hi
      · cases hi
    · exact h.elim

theorem aop_sound {P : Program} {o : Oper} {s : St} {K : St → Prop} (h : aop P o s K) {B : Base} {a : Act} {w : World} (hs : Sat B s a w) {K' : Act → World → Prop} {Q : Exit → Act → World → Prop}
    (hK : ∀ s' a' w', K s' → Sat B s' a' w' → K' a' w') : o.wp P a w K' Q := by
  obtain ⟨β, X, hr⟩ := hs
  unfold aop at h
  split at h
  · rename_i e he
    obtain ⟨hok, hd, hk⟩ := h
    obtain ⟨v, w', β', X', h1, h2, h3, h4⟩ := evOp_sound he B β X w a hr hok
    have hput := h2.put (d := o.dst) h3 h4 (fun d hd' => hd d hd')
    unfold Oper.wp
    rcases h1 with h1 | ⟨h1, rfl⟩
    · rw [h1]; exact hK _ _ _ hk ⟨β', X', hput⟩
    · rw [h1]; exact hK _ _ _ hk ⟨β', X', hput⟩
  · split at h
    · rename_i c ho
      split at h
      · rename_i f ps hc
        obtain ⟨hf, hd, hcall⟩ := h
        unfold calleeOf at hc
        split at hc
        · rename_i x hx
          split at hc
          · rename_i f' first cap hev
            simp only [Option.some.injEq, Prod.mk.injEq] at hc
            obtain ⟨rfl, rfl⟩ := hc
            have hxx := hr.ev x
            rw [hev] at hxx
            obtain ⟨hx1, hx2⟩ := hxx
            unfold repP at hx1
            obtain ⟨fs, cs, g1, g2, g3⟩ := hx1
            obtain ⟨e1, e2⟩ := evs_ok hr c.args.toList
            have hargs := repPs_append (repPs_append g2 e1) g3
            have hsc : Scs (· < s.nx) (first ++ c.args.toList.map (AM.ev s.regs) ++ cap) := Scs.append (Scs.append hx2.1 e2) hx2.2
            have hrun : (execOp a.eval o).run P w = .ok (.enter f' (fs ++ c.args.toList.map a.eval ++ cs).toArray) w := by
              have harr : fs.toArray ++ c.args.map a.eval ++ cs.toArray = (fs ++ c.args.toList.map a.eval ++ cs).toArray := by
                apply Array.toList_inj.1; simp
              simp only [execOp, ho, resolve, hx, Deferred.ofValue, g1, Sem.run_bind, Sem.run_pure, Result.andThen_ok, invoke, callFunc_enter hf, harr]
            unfold Oper.wp
            rw [hrun]
            refine (hcall B β X w _ hr.mem hargs hsc).mono fun e w' ⟨v, r, rows', nx', β', X', q1, q2, q3, q4, q5, q6, q7⟩ => ?_
            subst q1
            exact hK _ _ _ q2 ⟨β', X', (hr.of_mem q3 q6 q7).put q4 q5 hd⟩
          · cases hc
        · cases hc
      · exact xop_sound h hr hK
    · exact xop_sound h hr hK

/-- whether a guarded operation is wanted -/
def yieldP (ops : Array Oper) (s : St) (j : Nat) (want : Bool) : Option Bool :=
  match (ops[j]?).bind (·.dst) with
  | some d => match s.regs d with
    | .d (.lit (.bool b)) => if d < s.N then some (b == want) else none
    | .d (.lit (.tuple _)) => if d < s.N then some false else none
    | _ => none
  | none => none

theorem yieldP_ok {ops : Array Oper} {s : St} {o : Oper} {j : Nat} {want t : Bool} {B : Base} {β : Nat → Loc} {X : Nat → Prop} {w : World} {a : Act} (hr : SRel B β X w a s) (hg : o.guard = some (j, want)) (h : yieldP ops s j want = some t) :
    Region.wanted o (yielded ops a.tmps) = t := by
  have hw : Region.wanted o (yielded ops a.tmps) = (yielded ops a.tmps j == some want) := by unfold Region.wanted; rw [hg]
  rw [hw]
  unfold yieldP at h
  split at h
  · rename_i d hd
    have hget : ∀ v, a.tmps.getD d undef = v → d < s.N → a.tmps[d]? = some v := fun v hv hlt => by
      rw [Array.getD_eq_getD_getElem?] at hv
      have hs : d < a.tmps.size := by rw [hr.size]; exact hlt
      rw [Array.getElem?_eq_getElem hs] at hv ⊢
      simpa using hv
    have hreg := hr.rg d
    split at h
    · rename_i b hb
      split at h
      · rename_i hlt
        simp only [Option.some.injEq] at h; subst h
        rw [hb] at hreg
        have h2 : a.tmps.getD d undef = .bool b := by simpa [repP, rep] using hreg
        have h3 := hget _ h2 hlt
        have : yielded ops a.tmps j = some b := by unfold yielded; rw [hd]; simp [h3]
        rw [this]; cases b <;> cases want <;> rfl
      · cases h
    · rename_i u hb
      split at h
      · rename_i hlt
        simp only [Option.some.injEq] at h; subst h
        rw [hb] at hreg
        have h2 : a.tmps.getD d undef = .tuple u := by simpa [repP, rep] using hreg
        have h3 := hget _ h2 hlt
        have : yielded ops a.tmps j = none := by unfold yielded; rw [hd]; simp [h3]
        rw [this]; rfl
      · cases h
    · cases h
  · cases h

/-- what an operation that is passed over leaves -/
def undP : PV := .d (.lit undef)

def aops (P : Program) (ops : Array Oper) (Q : St → Prop) : List Oper → St → Prop
  | [], s => Q s
  | o :: rest, s => match o.guard with
    | none => aop P o s (aops P ops Q rest)
    | some (j, want) => match yieldP ops s j want with
      | some b => if b = true then aop P o s (aops P ops Q rest) else (∀ d, o.dst = some d → d < s.N) ∧ aops P ops Q rest (s.put o.dst undP)
      | none => False

theorem aops_sound {P : Program} {ops : Array Oper} {Q : St → Prop} {B : Base} {Q' : Exit → Act → World → Prop} (hQ : ∀ s a w, Q s → Sat B s a w → Q' .normal a w) : ∀ (l : List Oper) (s : St) (a : Act) (w : World),
    aops P ops Q l s → Sat B s a w → wpList P ops Q' l a w
  | [], s, a, w, h, hs => hQ s a w h hs
  | o :: rest, s, a, w, h, hs => by
    unfold aops at h
    unfold wpList
    split at h
    · rename_i hg
      rw [if_pos (by simp [Region.wanted, hg])]
      exact .inl (aop_sound h hs fun s' a' w' => aops_sound hQ rest s' a' w')
    · rename_i j want hg
      split at h
      · rename_i b hb
        obtain ⟨β, X, hr⟩ := hs
        have hy := yieldP_ok hr hg hb
        split at h
        · rename_i hbw
          subst hbw
          rw [if_pos hy]
          exact .inl (aop_sound h ⟨β, X, hr⟩ fun s' a' w' => aops_sound hQ rest s' a' w')
        · rename_i hbw
          rw [if_neg (by rw [hy]; exact hbw)]
          exact aops_sound hQ rest _ _ _ h.2 ⟨β, X, hr.put (p := undP) (by simp [undP, repP, rep]) trivial h.1⟩
      · exact h.elim

end Go.AM

namespace Go.AM
open Go

/-! ## to freeze rows -/
mutual
def frz (rows : Rows) (F : List Nat) : PV → PV
  | .d x => .d x
  | .own i => if i ∈ F then (match rows i with | .own sz el => .d (.sl sz el) | .box cells => (match allD cells with | some ds => .d (.sl 1 (ds.map fun d => [d])) | none => .any) | _ => .any) else .own i
  | .win i off m => if i ∈ F then (match rows i with | .own sz el => .d (.sl sz ((el.drop off).take m)) | _ => .any) else .win i off m
  | .ptr i off => if i ∈ F then .any else .ptr i off
  | .mp i => if i ∈ F then .any else .mp i
  | .eptr i k c => if i ∈ F then .any else .eptr i k c
  | .iptr cs => .iptr cs
  | .clo fn f c => .clo fn (frzs rows F f) (frzs rows F c)
  | .ifc t x => .ifc t (frz rows F x)
  | .agg ps => mkAgg (frzs rows F ps)
  | .tup ps => .tup (frzs rows F ps)
  | .any => .any
def frzs (rows : Rows) (F : List Nat) : List PV → List PV
  | [] => []
  | p :: ps => frz rows F p :: frzs rows F ps
end

theorem frzs_length (rows : Rows) (F : List Nat) : ∀ ps : List PV, (frzs rows F ps).length = ps.length
  | [] => rfl
  | p :: ps => by unfold frzs; rw [List.length_cons, List.length_cons, frzs_length rows F ps]

def frzRow (rows : Rows) (F : List Nat) : Row → Row
  | .box cells => .box (frzs rows F cells)
  | .map kd c ents => .map kd c (ents.map fun e => (e.1, e.2.1, frz rows F e.2.2))
  | r => r

def frzRows (rows : Rows) (F : List Nat) : Rows := fun i => if i ∈ F then .dead else frzRow rows F (rows i)

def frzX (rows : Rows) (β : Nat → Loc) (X : Nat → Prop) (F : List Nat) : Nat → Prop := fun b => X b ∧ ∀ i ∈ F, rblk (β i) (rows i) ≠ some b

theorem repss_X {w : World} {X X' : Nat → Prop} (h : ∀ b, X' b → X b) (sz : Nat) (el : List (List DV)) (vs : List Value) (hr : repss w X sz el vs) : repss w X' sz el vs :=
  repss_mono (fun _ _ hx => ⟨rfl, fun hx' => hx (h _ hx')⟩) sz el vs hr

theorem viewX_ok {B : Base} {β : Nat → Loc} {X : Nat → Prop} {w : World} {rows : Rows} {nx : Nat} {F : List Nat} {i : Nat} (hm : Mem B β X w rows nx) (hi : i ∈ F) {p : PV} {v : Value} {sz : Nat} {el : List (List DV)}
    (hp : (p = .own i ∨ ∃ off m, p = .win i off m)) (h : repP rows β w X p v) (hv : viewOf rows p = some (sz, el)) : rep w (frzX rows β X F) (.sl sz el) v := by
  obtain ⟨a, cap, vs, h1, h2, h3, h4, h5⟩ := viewOf_ok hm h hv
  unfold rep
  refine ⟨a, cap, vs, h1, h2, h3, repss_X (fun b hb => hb.1) _ _ _ h4, fun hne => ?_⟩
  obtain ⟨b, off, g1, g2⟩ := h5 hne
  refine ⟨b, off, g1, fun hx => ?_, g2⟩
  -- b is the row's block
  by_cases hbx : ∃ cells, rows i = .box cells
  · obtain ⟨cells, hr⟩ := hbx
    have hrow := hm.ok i
    rw [hr] at hrow
    obtain ⟨b', cs, e, fr, r1, _⟩ := hrow
    refine hx.2 i hi ?_
    rcases hp with rfl | ⟨o', m, rfl⟩
    · unfold repP at h
      obtain ⟨q1, q2⟩ := h.2 cells hr
      rw [h1, g1, r1] at q2
      simp only [Value.slice.injEq, Option.some.injEq, Addr.mk.injEq] at q2
      rw [hr]; simp only [rblk, r1, Option.map_some, q2.1.1]
    · unfold repP at h
      obtain ⟨b2, cap2, q1, q2, _⟩ := h.2 cells hr
      rw [h1, g1] at q2
      simp only [Value.slice.injEq, Option.some.injEq, Addr.mk.injEq] at q2
      rw [hr]; simp only [rblk, q1, Option.map_some, q2.1.1]
  have key : ∀ sz' el', rows i = .own sz' el' → ∃ b' off', (β i).a = some ⟨b', off', none⟩ ∧ ((β i).cap ≠ 0 → rblk (β i) (rows i) = some b') := fun sz' el' hr => by
    have hrow := hm.ok i
    rw [hr] at hrow
    obtain ⟨r1, r2, r3⟩ := hrow
    rcases r3 with ⟨r3, rfl⟩ | ⟨b', cs, e, fr, r3, r4, _⟩
    · exfalso
      have hel : el = [] := by
        rcases hp with rfl | ⟨off, m, rfl⟩ <;> simp [viewOf, hr] at hv
        · exact hv.2
        · exact hv.2
      subst hel
      unfold repss at h4
      exact hne h4
    · exact ⟨b', 0, r4, fun _ => by rw [hr]; simp [rblk, r4]; omega⟩
  have hrow' : ∃ sz' el', rows i = .own sz' el' := by
    cases hri : rows i with
    | own sz' el' => exact ⟨sz', el', rfl⟩
    | box cells => exact absurd ⟨cells, hri⟩ hbx
    | _ => rcases hp with rfl | ⟨off, m, rfl⟩ <;> simp [viewOf, hri] at hv
  obtain ⟨sz', el', hr⟩ := hrow'
  obtain ⟨b', off', k1, k2⟩ := key sz' el' hr
  have hcap : (β i).cap ≠ 0 := by
    have hrow := hm.ok i
    rw [hr] at hrow
    obtain ⟨r1, r2, r3⟩ := hrow
    intro h0
    rcases r3 with ⟨r3, rfl⟩ | ⟨b', cs, e, fr, r3, r4, _⟩
    · have hel : el = [] := by
        rcases hp with rfl | ⟨off, m, rfl⟩ <;> simp [viewOf, hr] at hv
        · exact hv.2
        · exact hv.2
      subst hel
      unfold repss at h4
      exact hne h4
    · omega
  have hbb : b = b' := by
    rcases hp with rfl | ⟨o', m, rfl⟩
    · unfold repP at h
      have := h.1 sz' el' hr
      rw [h1] at this
      simp only [Value.slice.injEq] at this
      rw [g1, k1] at this
      simpa using congrArg Addr.block (Option.some.inj this.1)
    · unfold repP at h
      have := (h.1 sz' el' hr).2
      rw [h1] at this
      simp only [Value.slice.injEq] at this
      rw [g1, k1] at this
      have h6 := this.1
      split at h6
      · simpa using congrArg Addr.block (Option.some.inj h6)
      · simp only [Option.map_some, Option.some.injEq] at h6
        have := congrArg Addr.block h6
        simpa [Addr.add] using (by unfold Addr.add at this; split at this <;> simpa using this)
  subst hbb
  exact hx.2 i hi (k2 hcap)

mutual
theorem repP_frz {B : Base} {β : Nat → Loc} {X : Nat → Prop} {w : World} {rows : Rows} {nx : Nat} {F : List Nat} (hm : Mem B β X w rows nx) : ∀ (p : PV) (v : Value), repP rows β w X p v →
    repP (frzRows rows F) β w (frzX rows β X F) (frz rows F p) v
  | .d x, v, h => by
    unfold frz; unfold repP at *
    exact rep_mono (fun _ _ hx => ⟨rfl, fun hx' => hx hx'.1⟩) x v h
  | .own i, v, h => by
    unfold frz
    split
    · rename_i hi
      split
      · rename_i sz el hr
        unfold repP
        exact viewX_ok hm hi (.inl rfl) h (by simp [viewOf, hr])
      · rename_i cells hr
        split
        · rename_i ds hds
          unfold repP
          exact viewX_ok hm hi (.inl rfl) h (by simp [viewOf, hr, hds])
        · simp [repP]
      · simp [repP]
    · rename_i hi
      unfold repP at *
      refine ⟨?_, ?_⟩
      · intro sz el hr
        simp only [frzRows, hi, if_false] at hr
        cases hri : rows i with
        | own sz' el' => rw [hri] at hr; simp only [frzRow, Row.own.injEq] at hr; obtain ⟨rfl, rfl⟩ := hr; exact h.1 _ _ hri
        | _ => rw [hri] at hr; simp [frzRow] at hr
      · intro cells hr
        simp only [frzRows, hi, if_false] at hr
        cases hri : rows i with
        | box c0 => rw [hri] at hr; simp only [frzRow, Row.box.injEq] at hr; subst hr; rw [frzs_length]; exact h.2 c0 hri
        | _ => rw [hri] at hr; simp [frzRow] at hr
  | .win i off m, v, h => by
    unfold frz
    split
    · rename_i hi
      split
      · rename_i sz el hr
        unfold repP
        exact viewX_ok hm hi (.inr ⟨off, m, rfl⟩) h (by simp [viewOf, hr])
      · simp [repP]
    · rename_i hi
      unfold repP at *
      refine ⟨?_, ?_⟩
      · intro sz el hr
        simp only [frzRows, hi, if_false] at hr
        cases hri : rows i with
        | own sz' el' => rw [hri] at hr; simp only [frzRow, Row.own.injEq] at hr; obtain ⟨rfl, rfl⟩ := hr; exact h.1 _ _ hri
        | _ => rw [hri] at hr; simp [frzRow] at hr
      · intro cells hr
        simp only [frzRows, hi, if_false] at hr
        cases hri : rows i with
        | box c0 => exact h.2 c0 hri
        | _ => rw [hri] at hr; simp [frzRow] at hr
  | .ptr i off, v, h => by
    unfold frz
    split
    · simp [repP]
    · rename_i hi
      unfold repP at *
      intro hr
      refine h fun h0 => hr ?_
      simp [frzRows, hi, h0, frzRow]
  | .mp i, v, h => by
    unfold frz
    split
    · simp [repP]
    · rename_i hi
      unfold repP at *
      intro hr
      refine h fun h0 => hr ?_
      simp [frzRows, hi, h0, frzRow]
  | .eptr i k c, v, h => by
    unfold frz
    split
    · simp [repP]
    · rename_i hi
      unfold repP at *
      intro sz el hr
      simp only [frzRows, hi, if_false] at hr
      cases hri : rows i with
      | own sz' el' => rw [hri] at hr; simp only [frzRow, Row.own.injEq] at hr; obtain ⟨rfl, rfl⟩ := hr; exact h _ _ hri
      | _ => rw [hri] at hr; simp [frzRow] at hr
  | .iptr cs, v, h => by
    unfold frz; unfold repP at *
    obtain ⟨b, off, vs, h1, h2, h3, h4, h5⟩ := h
    exact ⟨b, off, vs, h1, reps_mono (fun _ _ hx => ⟨rfl, fun hx' => hx hx'.1⟩) cs vs h2, h3, fun hx => h4 hx.1, h5⟩
  | .clo fn f c, v, h => by
    unfold frz; unfold repP at *
    obtain ⟨fs, cs, h1, h2, h3⟩ := h
    exact ⟨fs, cs, h1, repPs_frz hm f fs h2, repPs_frz hm c cs h3⟩
  | .ifc t x, v, h => by
    unfold frz; unfold repP at *
    obtain ⟨u, h1, h2⟩ := h
    exact ⟨u, h1, repP_frz hm x u h2⟩
  | .agg ps, v, h => by
    unfold frz; unfold repP at h
    obtain ⟨vs, h1, h2, h3⟩ := h
    subst h1
    exact mkAgg_ok (repPs_frz hm ps vs h2) h3
  | .tup ps, v, h => by
    unfold frz; unfold repP at *
    obtain ⟨vs, h1, h2⟩ := h
    exact ⟨vs, h1, repPs_frz hm ps vs h2⟩
  | .any, v, h => by simp [frz, repP]
theorem repPs_frz {B : Base} {β : Nat → Loc} {X : Nat → Prop} {w : World} {rows : Rows} {nx : Nat} {F : List Nat} (hm : Mem B β X w rows nx) : ∀ (ps : List PV) (vs : List Value), repPs rows β w X ps vs →
    repPs (frzRows rows F) β w (frzX rows β X F) (frzs rows F ps) vs
  | [], vs, h => by unfold frzs; simpa [repPs] using h
  | c :: cs, vs, h => by
    unfold frzs; unfold repPs at *
    obtain ⟨u, us, h1, h2, h3⟩ := h
    exact ⟨u, us, h1, repP_frz hm c u h2, repPs_frz hm cs us h3⟩
end

mutual
theorem Sc_frz {S : Nat → Prop} {rows : Rows} {F : List Nat} : ∀ (p : PV), Sc S p → Sc S (frz rows F p)
  | .d _, _ => trivial
  | .own i, h => by unfold frz; split; · split; · trivial
                                         · split <;> trivial
                                         · trivial
                    · exact h
  | .win i off m, h => by unfold frz; split; · split <;> trivial
                          · exact h
  | .ptr i off, h => by unfold frz; split; · trivial
                        · exact h
  | .mp i, h => by unfold frz; split; · trivial
                   · exact h
  | .eptr i k c, h => by unfold frz; split; · trivial
                         · exact h
  | .iptr _, _ => trivial
  | .clo _ f c, h => by unfold frz; exact ⟨Scs_frz f h.1, Scs_frz c h.2⟩
  | .ifc _ x, h => by unfold frz; exact Sc_frz x h
  | .agg ps, h => by unfold frz; exact Sc_mkAgg (Scs_frz ps h)
  | .tup ps, h => by unfold frz; exact Scs_frz ps h
  | .any, _ => trivial
theorem Scs_frz {S : Nat → Prop} {rows : Rows} {F : List Nat} : ∀ (ps : List PV), Scs S ps → Scs S (frzs rows F ps)
  | [], _ => trivial
  | p :: ps, h => by unfold frzs; exact ⟨Sc_frz p h.1, Scs_frz ps h.2⟩
end

def ownOrDead : Row → Bool | .own _ _ => true | .dead => true | _ => false

theorem repEs_frz {B : Base} {β : Nat → Loc} {X : Nat → Prop} {w : World} {rows : Rows} {nx : Nat} {F : List Nat} (hm : Mem B β X w rows nx) : ∀ (ents : List (MKey × Nat × PV)) (es : List MapEntry), repEs rows β w X ents es →
    repEs (frzRows rows F) β w (frzX rows β X F) (ents.map fun e => (e.1, e.2.1, frz rows F e.2.2)) es
  | [], es, h => h
  | (k, n, p) :: l, es, h => by
    obtain ⟨e, es', h1, h2, h3, h4, h5⟩ := h
    exact ⟨e, es', h1, h2, h3, repP_frz hm p _ h4, repEs_frz hm l es' h5⟩

theorem Mem.freeze {B : Base} {β : Nat → Loc} {X : Nat → Prop} {w : World} {rows : Rows} {nx : Nat} (hm : Mem B β X w rows nx) (F : List Nat) : Mem B β (frzX rows β X F) w (frzRows rows F) nx := by
  have hbl : ∀ i b, rblk (β i) (frzRows rows F i) = some b → i ∉ F ∧ rblk (β i) (rows i) = some b := fun i b hb => by
    by_cases hi : i ∈ F
    · simp [frzRows, hi, rblk] at hb
    · refine ⟨hi, ?_⟩
      simp only [frzRows, hi, if_false] at hb
      cases hri : rows i <;> rw [hri] at hb <;> exact hb
  refine ⟨fun i => ?_, fun i j b hi hj => hm.inj i j b (hbl i b hi).2 (hbl j b hj).2, fun i hi => ?_, fun i => ?_, hm.os, hm.tape, hm.output, hm.size, hm.keep, fun b hb hx => hm.xs b hb hx.1,
    fun i b hi hlt => hm.lent i b (hbl i b hi).2 hlt, fun b hb h0 hl => ⟨hm.fx b hb h0 hl, fun i _ hi => hl (hm.lent i b hi hb)⟩, hm.kln, fun i hi => ?_⟩
  · by_cases hi : i ∈ F
    · simp [frzRows, hi, rowOk]
    · have hX : ∀ b, rblk (β i) (rows i) = some b → frzX rows β X F b := fun b hb =>
        ⟨(rowOk_blk (hm.ok i) hb).2, fun j hj hjb => hi (by rw [hm.inj i j b hb hjb]; exact hj)⟩
      simp only [frzRows, hi, if_false]
      have hrow := hm.ok i
      cases hri : rows i with
      | dead => trivial
      | box cells =>
        rw [hri] at hrow
        obtain ⟨b, cs, e, fr, h1, h2, h3, h4, h5, h6⟩ := hrow
        refine ⟨b, cs, e, fr, h1, hX b (by rw [hri]; simp [rblk, h1]), h3, h4, ?_, ?_⟩
        · rw [frzs_length]; exact repPs_frz hm cells _ h5
        · rw [frzs_length]; exact h6
      | own sz el =>
        rw [hri] at hrow
        obtain ⟨h1, h2, h3⟩ := hrow
        refine ⟨h1, h2, ?_⟩
        rcases h3 with h3 | ⟨b, cs, e, fr, h3, h4, h5, h6, h7, h8, h9⟩
        · exact .inl h3
        · exact .inr ⟨b, cs, e, fr, h3, h4, hX b (by rw [hri]; simp [rblk, h4]; omega), h6, h7, h8, repss_X (fun b hb => hb.1) _ _ _ h9⟩
      | iter s pos =>
        rw [hri] at hrow
        obtain ⟨b, h1, h2, h3⟩ := hrow
        exact ⟨b, h1, hX b (by rw [hri]; simp [rblk, h1]), h3⟩
      | map kd clock ents =>
        rw [hri] at hrow
        obtain ⟨b, es, h1, h2, h3, h4, h5⟩ := hrow
        refine ⟨b, es, h1, hX b (by rw [hri]; simp [rblk, h1]), h3, repEs_frz hm ents _ h4, fun e he => ?_⟩
        obtain ⟨x, hx, rfl⟩ := List.mem_map.1 he
        exact h5 x hx
      | itm src since seen last =>
        rw [hri] at hrow
        obtain ⟨b, mb, h1, h2, h3, h4⟩ := hrow
        refine ⟨b, mb, h1, hX b (by rw [hri]; simp [rblk, h1]), h3, fun hd => h4 fun h0 => hd ?_⟩
        by_cases hF : src ∈ F
        · simp [frzRows, hF]
        · simp [frzRows, hF, h0, frzRow]
  · by_cases hF : i ∈ F
    · simp [frzRows, hF]
    · simp [frzRows, hF, hm.dead i hi, frzRow]
  · by_cases hF : i ∈ F
    · simp only [frzRows, hF, if_true]; trivial
    · simp only [frzRows, hF, if_false]
      have hs := hm.sr i
      cases hri : rows i with
      | box cells => rw [hri] at hs; exact Scs_frz _ hs
      | map kd clock ents =>
        rw [hri] at hs
        intro e he
        obtain ⟨x, hx, rfl⟩ := List.mem_map.1 he
        exact Sc_frz _ (hs x hx)
      | itm src since seen last => rw [hri] at hs; exact hs
      | _ => trivial
  · obtain ⟨h1, h2⟩ := hm.lk i hi
    by_cases hF : i ∈ F
    · simp only [frzRows, hF, if_true]
      exact ⟨by cases B.rows0 i <;> simp [RowC], fun hd => absurd rfl hd⟩
    · simp only [frzRows, hF, if_false]
      cases hri : rows i with
      | box cells => rw [hri] at h1 h2; exact ⟨h1.trans (by simp [RowC, frzRow, frzs_length]), fun _ => h2 (by simp)⟩
      | map kd clock ents => rw [hri] at h1 h2; exact ⟨h1.trans (by simp [RowC, frzRow]), fun _ => h2 (by simp)⟩
      | _ => rw [hri] at h1 h2; exact ⟨h1, h2⟩
end Go.AM

namespace Go.AM
open Go

/-! ## to rename rows -/
mutual
def ren (σ : Nat → Nat) : PV → PV
  | .d x => .d x
  | .own i => .own (σ i)
  | .win i off m => .win (σ i) off m
  | .ptr i off => .ptr (σ i) off
  | .mp i => .mp (σ i)
  | .eptr i k c => .eptr (σ i) k c
  | .iptr cs => .iptr cs
  | .clo fn f c => .clo fn (rens σ f) (rens σ c)
  | .ifc t x => .ifc t (ren σ x)
  | .agg ps => .agg (rens σ ps)
  | .tup ps => .tup (rens σ ps)
  | .any => .any
def rens (σ : Nat → Nat) : List PV → List PV
  | [] => []
  | p :: ps => ren σ p :: rens σ ps
end

theorem rens_length (σ : Nat → Nat) : ∀ ps : List PV, (rens σ ps).length = ps.length
  | [] => rfl
  | p :: ps => by unfold rens; rw [List.length_cons, List.length_cons, rens_length σ ps]

def renRow (σ : Nat → Nat) : Row → Row
  | .box cells => .box (rens σ cells)
  | .map kd c ents => .map kd c (ents.map fun e => (e.1, e.2.1, ren σ e.2.2))
  | .itm src since seen last => .itm (σ src) since seen last
  | r => r

/-- the row that a renamed one was -/
def RowIs (σ : Nat → Nat) (r r2 : Row) : Prop := r2 = .dead ∨ r = renRow σ r2

mutual
theorem repP_unren {rows rows2 : Rows} {β : Nat → Loc} {w : World} {X : Nat → Prop} {σ : Nat → Nat} (hr : ∀ i, RowIs σ (rows (σ i)) (rows2 i)) : ∀ (p : PV) (v : Value),
    repP rows β w X (ren σ p) v → repP rows2 (fun i => β (σ i)) w X p v
  | .d x, v, h => by unfold ren at h; unfold repP at *; exact h
  | .own i, v, h => by
    unfold ren at h; unfold repP at *
    refine ⟨?_, ?_⟩
    · intro sz el hi
      rcases hr i with h1 | h1
      · rw [hi] at h1; cases h1
      · rw [hi] at h1; exact h.1 sz el h1
    · intro cells hi
      rcases hr i with h1 | h1
      · rw [hi] at h1; cases h1
      · rw [hi] at h1
        have := h.2 _ h1
        rw [rens_length] at this
        exact this
  | .win i off m, v, h => by
    unfold ren at h; unfold repP at *
    refine ⟨?_, ?_⟩
    · intro sz el hi
      rcases hr i with h1 | h1
      · rw [hi] at h1; cases h1
      · rw [hi] at h1; exact h.1 sz el h1
    · intro cells hi
      rcases hr i with h1 | h1
      · rw [hi] at h1; cases h1
      · rw [hi] at h1; exact h.2 _ h1
  | .ptr i off, v, h => by
    unfold ren at h; unfold repP at *
    intro hi
    rcases hr i with h1 | h1
    · exact absurd h1 hi
    · refine h fun h0 => hi ?_
      rw [h0] at h1
      cases hri : rows2 i <;> rw [hri] at h1 <;> simp [renRow] at h1 ⊢
  | .mp i, v, h => by
    unfold ren at h; unfold repP at *
    intro hi
    rcases hr i with h1 | h1
    · exact absurd h1 hi
    · refine h fun h0 => hi ?_
      rw [h0] at h1
      cases hri : rows2 i <;> rw [hri] at h1 <;> simp [renRow] at h1 ⊢
  | .eptr i k c, v, h => by
    unfold ren at h; unfold repP at *
    intro sz el hi
    rcases hr i with h1 | h1
    · rw [hi] at h1; cases h1
    · rw [hi] at h1; exact h sz el h1
  | .iptr cs, v, h => by unfold ren at h; unfold repP at *; exact h
  | .clo fn f c, v, h => by
    unfold ren at h; unfold repP at *
    obtain ⟨fs, cs, h1, h2, h3⟩ := h
    exact ⟨fs, cs, h1, repPs_unren hr f fs h2, repPs_unren hr c cs h3⟩
  | .ifc t x, v, h => by
    unfold ren at h; unfold repP at *
    obtain ⟨u, h1, h2⟩ := h
    exact ⟨u, h1, repP_unren hr x u h2⟩
  | .agg ps, v, h => by
    unfold ren at h; unfold repP at *
    obtain ⟨vs, h1, h2, h3⟩ := h
    exact ⟨vs, h1, repPs_unren hr ps vs h2, h3⟩
  | .tup ps, v, h => by
    unfold ren at h; unfold repP at *
    obtain ⟨vs, h1, h2⟩ := h
    exact ⟨vs, h1, repPs_unren hr ps vs h2⟩
  | .any, v, h => by simp [repP]
theorem repPs_unren {rows rows2 : Rows} {β : Nat → Loc} {w : World} {X : Nat → Prop} {σ : Nat → Nat} (hr : ∀ i, RowIs σ (rows (σ i)) (rows2 i)) : ∀ (ps : List PV) (vs : List Value),
    repPs rows β w X (rens σ ps) vs → repPs rows2 (fun i => β (σ i)) w X ps vs
  | [], vs, h => by unfold rens at h; simpa [repPs] using h
  | c :: cs, vs, h => by
    unfold rens at h; unfold repPs at *
    obtain ⟨u, us, h1, h2, h3⟩ := h
    exact ⟨u, us, h1, repP_unren hr c u h2, repPs_unren hr cs us h3⟩
end

theorem repEs_unren {rows rows2 : Rows} {β : Nat → Loc} {w : World} {X : Nat → Prop} {σ : Nat → Nat} (hr : ∀ i, RowIs σ (rows (σ i)) (rows2 i)) : ∀ (ents : List (MKey × Nat × PV)) (es : List MapEntry),
    repEs rows β w X (ents.map fun e => (e.1, e.2.1, ren σ e.2.2)) es → repEs rows2 (fun i => β (σ i)) w X ents es
  | [], es, h => h
  | (k, n, p) :: l, es, h => by
    obtain ⟨e, es', h1, h2, h3, h4, h5⟩ := h
    exact ⟨e, es', h1, h2, h3, repP_unren hr p _ h4, repEs_unren hr l es' h5⟩

/-- rows chosen and renamed -/
theorem Mem.rename {B : Base} {β : Nat → Loc} {X : Nat → Prop} {w : World} {rows rows2 : Rows} {nx nx2 : Nat} {σ : Nat → Nat} (hm : Mem B β X w rows nx) (hr : ∀ i, RowIs σ (rows (σ i)) (rows2 i))
    (hinj : ∀ i j, rows2 i ≠ .dead → rows2 j ≠ .dead → σ i = σ j → i = j) (hd : ∀ i, nx2 ≤ i → rows2 i = .dead) (hs : ∀ i, rowSc (· < nx2) (rows2 i))
    (hk : B.kl ≤ nx2) (hkl : ∀ i, i < B.kl → rows2 i ≠ .dead → σ i = i) : Mem B (fun i => β (σ i)) X w rows2 nx2 := by
  have hbl : ∀ i b, rblk (β (σ i)) (rows2 i) = some b → rows2 i ≠ .dead ∧ rblk (β (σ i)) (rows (σ i)) = some b := fun i b hb => by
    rcases hr i with h1 | h1
    · rw [h1] at hb; simp [rblk] at hb
    · refine ⟨fun h0 => by rw [h0] at hb; simp [rblk] at hb, ?_⟩
      rw [h1]
      cases hri : rows2 i <;> rw [hri] at hb <;> exact hb
  refine ⟨fun i => ?_, fun i j b hi hj => hinj i j (hbl i b hi).1 (hbl j b hj).1 (hm.inj _ _ b (hbl i b hi).2 (hbl j b hj).2), hd, hs, hm.os, hm.tape, hm.output, hm.size, hm.keep, hm.xs,
    fun i b hi hlt => hm.lent _ b (hbl i b hi).2 hlt, hm.fx, hk, fun i hi => ?_⟩
  · have hrow := hm.ok (σ i)
    rcases hr i with h1 | h1
    · rw [h1]; trivial
    rw [h1] at hrow
    cases hri : rows2 i with
    | dead => trivial
    | box cells =>
      rw [hri] at hrow
      obtain ⟨b, cs, e, fr, g1, g2, g3, g4, g5, g6⟩ := hrow
      rw [rens_length] at g5 g6
      exact ⟨b, cs, e, fr, g1, g2, g3, g4, repPs_unren hr cells _ g5, g6⟩
    | own sz el => rw [hri] at hrow; exact hrow
    | iter s pos => rw [hri] at hrow; exact hrow
    | map kd clock ents =>
      rw [hri] at hrow
      obtain ⟨b, es, g1, g2, g3, g4, g5⟩ := hrow
      refine ⟨b, es, g1, g2, g3, repEs_unren hr ents _ g4, fun e he => ?_⟩
      exact g5 (e.1, e.2.1, ren σ e.2.2) (List.mem_map.2 ⟨e, he, rfl⟩)
    | itm src since seen last =>
      rw [hri] at hrow
      obtain ⟨b, mb, g1, g2, g3, g4⟩ := hrow
      refine ⟨b, mb, g1, g2, g3, fun hd => g4 fun h0 => hd ?_⟩
      rcases hr src with h5 | h5
      · exact h5
      · rw [h0] at h5
        cases hrs : rows2 src <;> rw [hrs] at h5 <;> simp [renRow] at h5 ⊢
  · by_cases hd2 : rows2 i = .dead
    · rw [hd2]; exact ⟨by cases B.rows0 i <;> simp [RowC], fun h => absurd rfl h⟩
    · have hσ := hkl i hi hd2
      obtain ⟨h1, h2⟩ := hm.lk i hi
      rcases hr i with h3 | h3
      · exact absurd h3 hd2
      · rw [hσ] at h3
        rw [h3] at h1 h2
        rw [hσ]
        refine ⟨h1.trans ?_, fun _ => h2 ?_⟩
        · cases hri : rows2 i <;> simp [renRow, RowC, rens_length]
        · cases hri : rows2 i <;> rw [hri] at hd2 <;> simp [renRow] at hd2 ⊢

def lrows (l : List Row) : Rows := fun i => l.getD i .dead
def lk : List (Nat × PV) → Nat → PV
  | [], _ => .any
  | (d, p) :: l, t => if t = d then p else lk l t

/-- a state that is told in full -/
def mkSt (N kl : Nat) (regs : List (Nat × PV)) (rows : List Row) : St := { N, kl, regs := lk regs, rows := lrows rows, nx := rows.length }

mutual
def scB (n : Nat) : PV → Bool
  | .d _ => true
  | .own i => i < n
  | .win i _ _ => i < n
  | .ptr i _ => i < n
  | .mp i => i < n
  | .eptr i _ _ => i < n
  | .iptr _ => true
  | .clo _ f c => scBs n f && scBs n c
  | .ifc _ x => scB n x
  | .agg ps => scBs n ps
  | .tup ps => scBs n ps
  | .any => true
def scBs (n : Nat) : List PV → Bool
  | [] => true
  | p :: ps => scB n p && scBs n ps
end

mutual
theorem scB_ok {n : Nat} : ∀ (p : PV), scB n p = true → Sc (· < n) p
  | .d _, _ => trivial
  | .own i, h => by simp only [scB, decide_eq_true_eq] at h; exact h
  | .win i _ _, h => by simp only [scB, decide_eq_true_eq] at h; exact h
  | .ptr i _, h => by simp only [scB, decide_eq_true_eq] at h; exact h
  | .mp i, h => by simp only [scB, decide_eq_true_eq] at h; exact h
  | .eptr i _ _, h => by simp only [scB, decide_eq_true_eq] at h; exact h
  | .iptr _, _ => trivial
  | .clo _ f c, h => by simp only [scB, Bool.and_eq_true] at h; exact ⟨scBs_ok f h.1, scBs_ok c h.2⟩
  | .ifc _ x, h => scB_ok x (by simpa [scB] using h)
  | .agg ps, h => scBs_ok ps (by simpa [scB] using h)
  | .tup ps, h => scBs_ok ps (by simpa [scB] using h)
  | .any, _ => trivial
theorem scBs_ok {n : Nat} : ∀ (ps : List PV), scBs n ps = true → Scs (· < n) ps
  | [], _ => trivial
  | p :: ps, h => by simp only [scBs, Bool.and_eq_true] at h; exact ⟨scB_ok p h.1, scBs_ok ps h.2⟩
end

def scRow (n : Nat) : Row → Bool | .box cells => scBs n cells | .map _ _ ents => ents.all (fun e => scB n e.2.2) | .itm src _ _ _ => src < n | _ => true

theorem scRow_ok {n : Nat} {r : Row} (h : scRow n r = true) : rowSc (· < n) r := by
  cases r with
  | box cells => exact scBs_ok cells h
  | map kd clock ents =>
    intro e he
    simp only [scRow, List.all_eq_true] at h
    exact scB_ok _ (h e he)
  | itm src since seen last => simp only [scRow, decide_eq_true_eq] at h; exact h
  | _ => trivial

def aliveR : Row → Bool | .dead => false | _ => true

/-- the rows of the aim, one by one -/
def rowsEnt (rows : Rows) (F : List Nat) (ρ : List Nat) : Nat → List Row → Prop
  | _, [] => True
  | k, r :: rs => (r = .dead ∨ (ρ.getD k 0 ∉ F ∧ frzRow rows F (rows (ρ.getD k 0)) = renRow (fun i => ρ.getD i 0) r)) ∧ rowsEnt rows F ρ (k + 1) rs

def regsEnt (s : St) (F : List Nat) (ρ : List Nat) : List (Nat × PV) → Prop
  | [] => True
  | (d, p) :: l => (p = .any ∨ frz s.rows F (s.regs d) = ren (fun i => ρ.getD i 0) p) ∧ regsEnt s F ρ l

/-- the state s tells all that the list tells: rows F frozen, row number k of the aim is row ρ[k] -/
structure Ent (s : St) (F : List Nat) (ρ : List Nat) (N kl : Nat) (regs : List (Nat × PV)) (rows : List Row) : Prop where
  n : s.N = N
  k : s.kl = kl
  kle : kl ≤ rows.length
  klr : ∀ i, i < kl → rows.getD i .dead = .dead ∨ ρ.getD i 0 = i
  rg : regsEnt s F ρ regs
  rw : rowsEnt s.rows F ρ 0 rows
  len : ρ.length = rows.length
  nodup : ρ.Nodup
  sc : (regs.all fun x => scB rows.length x.2) = true
  scr : (rows.all (scRow rows.length)) = true

theorem rowsEnt_get {rows : Rows} {F ρ : List Nat} : ∀ {k : Nat} {rs : List Row}, rowsEnt rows F ρ k rs → ∀ j r, rs[j]? = some r →
    r = .dead ∨ (ρ.getD (k + j) 0 ∉ F ∧ frzRow rows F (rows (ρ.getD (k + j) 0)) = renRow (fun i => ρ.getD i 0) r)
  | k, [], _, j, r, hj => by simp at hj
  | k, r0 :: rs, h, j, r, hj => by
    unfold rowsEnt at h
    cases j with
    | zero => simp at hj; subst hj; exact h.1
    | succ j =>
      have := rowsEnt_get h.2 j r (by simpa using hj)
      rwa [show k + 1 + j = k + (j + 1) from by omega] at this

theorem Ent.core {s : St} {F ρ : List Nat} {N kl : Nat} {regs : List (Nat × PV)} {rows : List Row} (h : Ent s F ρ N kl regs rows) {B : Base} {β : Nat → Loc} {X : Nat → Prop} {a : Act} {w : World} (hr : SRel B β X w a s) :
    ∃ β' X', Mem B β' X' w (lrows rows) rows.length ∧ ∀ p q v, repP s.rows β w X p v → frz s.rows F p = ren (fun i => ρ.getD i 0) q → repP (lrows rows) β' w X' q v := by
  have hm := hr.mem.freeze F
  have hrow : ∀ i, RowIs (fun i => ρ.getD i 0) (frzRows s.rows F (ρ.getD i 0)) (lrows rows i) := fun i => by
    unfold lrows
    cases hi : rows[i]? with
    | none => left; simp [List.getD, hi]
    | some r =>
      have hg : rows.getD i .dead = r := by simp [List.getD, hi]
      rw [hg]
      rcases rowsEnt_get h.rw i r hi with h1 | ⟨h1, h2⟩
      · exact .inl h1
      · right
        rw [Nat.zero_add] at h1 h2
        simp only [frzRows, h1, if_false]; exact h2
  have hlt : ∀ i, lrows rows i ≠ .dead → i < rows.length := fun i hi => by
    rcases Nat.lt_or_ge i rows.length with hlt | hge
    · exact hlt
    · exact absurd (by simp [lrows, List.getD, List.getElem?_eq_none hge]) hi
  have hm2 := hm.rename (nx2 := rows.length) hrow (fun i j hi hj he => by
      have h1 := hlt i hi
      have h2 := hlt j hj
      rw [← h.len] at h1 h2
      rw [List.getD_eq_getElem?_getD, List.getD_eq_getElem?_getD] at he
      refine (List.getElem?_inj h1 h.nodup).1 ?_
      rw [List.getElem?_eq_getElem h1, List.getElem?_eq_getElem h2] at he ⊢
      simpa using he)
    (fun i hi => by simp [lrows, List.getD, List.getElem?_eq_none hi])
    (fun i => by
      rcases Nat.lt_or_ge i rows.length with h1 | h1
      · have h2 := h.scr
        rw [List.all_eq_true] at h2
        have h3 := h2 rows[i] (List.getElem_mem h1)
        have h4 : lrows rows i = rows[i] := by simp [lrows, List.getD, List.getElem?_eq_getElem h1]
        rw [h4]
        exact scRow_ok h3
      · have h4 : lrows rows i = .dead := by simp [lrows, List.getD, List.getElem?_eq_none h1]
        rw [h4]; trivial)
    (by rw [← hr.kl, h.k]; exact h.kle) (fun i hi hd => by
      rw [← hr.kl, h.k] at hi
      rcases h.klr i hi with h1 | h1
      · exact absurd h1 hd
      · exact h1)
  exact ⟨_, _, hm2, fun p q v hp hq => repP_unren hrow q v (by rw [← hq]; exact repP_frz hr.mem p v hp)⟩

theorem Ent.sat {s : St} {F ρ : List Nat} {N kl : Nat} {regs : List (Nat × PV)} {rows : List Row} (h : Ent s F ρ N kl regs rows) {B : Base} {a : Act} {w : World} (hs : Sat B s a w) :
    Sat B (mkSt N kl regs rows) a w := by
  obtain ⟨β, X, hr⟩ := hs
  obtain ⟨β', X', hm2, hp⟩ := h.core hr
  refine ⟨β', X', hm2, hr.defers, by rw [hr.size, h.n]; rfl, by rw [← hr.kl, h.k]; rfl, fun t => ?_, fun t => ?_⟩
  · have aux : ∀ l : List (Nat × PV), regsEnt s F ρ l → repP (lrows rows) β' w X' (lk l t) (a.tmps.getD t undef) := by
      intro l
      induction l with
      | nil => intro _; simp [lk, repP]
      | cons x l ih =>
        obtain ⟨d, p⟩ := x
        intro hl
        unfold regsEnt at hl
        unfold lk
        by_cases ht : t = d
        · subst ht
          rw [if_pos rfl]
          rcases hl.1 with h1 | h1
          · subst h1; simp [repP]
          · exact hp _ p _ (hr.rg t) h1
        · rw [if_neg ht]; exact ih hl.2
    exact aux regs h.rg
  · have aux : ∀ l : List (Nat × PV), (l.all fun x => scB rows.length x.2) = true → Sc (· < rows.length) (lk l t) := by
      intro l
      induction l with
      | nil => intro _; trivial
      | cons x l ih =>
        obtain ⟨d, p⟩ := x
        intro hl
        simp only [List.all_cons, Bool.and_eq_true] at hl
        unfold lk
        split
        · exact scB_ok p hl.1
        · exact ih hl.2
    exact aux regs h.sc
end Go.AM
