/- Proved here: a part of an abstract machine for the walks of this program, and that it tells the truth about the model. No condition. -/
import Derived.Test.YtjaklhbifgbiaaaAmK
set_option linter.unusedSimpArgs false
set_option linter.unusedVariables false
namespace Go.AM
open Go

/-! ## convert -/
def TK.isInt : TK → Option IntKind | .int k => some k | _ => none

def isBytes (P : Program) (t : TypeId) : Bool :=
  match tyOf P t with
  | some ty => match ty.k with
    | .slice e => match tyOf P e with
      | some ety => (match ety.k with | .int .u8 => true | _ => false)
      | none => false
    | _ => false
  | none => false

theorem isBytes_spec {P : Program} {t : TypeId} (h : isBytes P t = true) : ∃ e, P.underlying t = some (.slice e) ∧ P.underlying e = some (.int .u8) := by
  unfold isBytes at h
  split at h
  · rename_i ty ht
    split at h
    · rename_i e hk
      split at h
      · rename_i ety he
        split at h
        · rename_i hk'
          exact ⟨e, tyOf_slice ht hk, tyOf_int he hk'⟩
        · cases h
      · cases h
    · cases h
  · cases h

def evConv (P : Program) (rows : Rows) (src dst : TypeId) (p : PV) : Option PV :=
  match p with
  | .d (.lit (.int _ n)) => match tyOf P src, tyOf P dst with
    | some _, some ty => match ty.k with
      | .int k => some (.d (.lit (.int k (k.wrap n))))
      | _ => none
    | _, _ => none
  | .d (.lit (.string s)) => if tyIs P src TK.isStr && tyIs P dst TK.isStr then some (.d (.lit (.string s))) else none
  | .d (.lit (.slice none _ _)) => if isBytes P src && tyIs P dst TK.isStr then some (.d (.lit (.string ⟨⟨[]⟩⟩))) else none
  | p => if isBytes P src && tyIs P dst TK.isStr then match viewOf rows p with
      | some (sz, el) => if sz = 1 then match strOf el with
        | some bs => some (.d (.lit (.string ⟨⟨bs⟩⟩)))
        | none => none
        else none
      | none => none
    else none

theorem op_convert {P : Program} {o : Oper} {s : St} {src dst : TypeId} {x : Operand} {q : PV} (ho : o.op = .convert src dst x) (h : evConv P s.rows src dst (ev s.regs x) = some q) :
    OpSound P o s (Eff.pureIf True q) := by
  unfold evConv at h
  split at h
  · rename_i k0 n hx
    split at h
    · rename_i sty ty hs hd
      split at h
      · rename_i k hk
        simp only [Option.some.injEq] at h; subst h
        obtain ⟨i, u, _, h2, _⟩ := tyOf_spec hs
        refine sound_lit fun B β X w a hr _ => ?_
        simp only [execOp, ho, hr.lit hx, convert, Sem.run_bind, run_underlying h2, run_underlying (tyOf_int hd hk), Result.andThen_ok]
        simp [Conv.intToInt]
      · cases h
    · cases h
  · rename_i str hx
    split at h
    · rename_i ht
      simp only [Bool.and_eq_true] at ht
      simp only [Option.some.injEq] at h; subst h
      refine sound_lit fun B β X w a hr _ => ?_
      simp [execOp, ho, hr.lit hx, convert, run_underlying (tyIs_string ht.1), run_underlying (tyIs_string ht.2)]
    · cases h
  · rename_i n c hx
    split at h
    · rename_i ht
      simp only [Bool.and_eq_true] at ht
      simp only [Option.some.injEq] at h; subst h
      obtain ⟨e, h1, h2⟩ := isBytes_spec ht.1
      refine sound_lit fun B β X w a hr _ => ?_
      simp only [execOp, ho, hr.lit hx, Sem.run_bind, run_convert_bytes_nil w src e h1 h2 n c dst (tyIs_string ht.2), Result.andThen_ok, Sem.run_pure]
      rfl
    · cases h
  · split at h
    · rename_i ht
      simp only [Bool.and_eq_true] at ht
      obtain ⟨e, h1, h2⟩ := isBytes_spec ht.1
      split at h
      · rename_i sz el hv
        split at h
        · rename_i hsz
          subst hsz
          split at h
          · rename_i bs hbs
            simp only [Option.some.injEq] at h; subst h
            refine sound_lit fun B β X w a hr _ => ?_
            obtain ⟨ad, cap, vs, g1, g2, g3, g4, g5⟩ := viewOf_ok hr.mem (hr.ev x).1 hv
            obtain ⟨ns, i1, i2⟩ := strOf_vs hbs g4
            subst i1
            have hl := repss_length g4
            simp only [List.length_map, Nat.mul_one] at hl
            have key : (convert src dst (.slice ad el.length cap)).run P w = .ok (.string ⟨⟨bs⟩⟩) w := by
              rw [run_convert_bytes_string w src dst e ad el.length cap h1 h2 (tyIs_string ht.2)]
              by_cases hn : ns = []
              · subst hn
                have h0 : el.length = 0 := by simpa using hl.symm
                rw [h0]
                subst i2
                cases ad with
                | none => simp [Conv.bytesToString]; rfl
                | some ad => exact run_bts ad 0 cap [] rfl (fun j u hu => by simp at hu)
              · obtain ⟨b, off, j1, j2⟩ := g5 (by simpa using hn)
                subst j1
                rw [run_bts ⟨b, off, none⟩ el.length cap ns hl (fun j u hu => by rw [Addr.add_lit]; exact j2 j u hu), i2]
            simp only [execOp, ho, g1, Sem.run_bind, key, Result.andThen_ok, Sem.run_pure]
          · cases h
        · cases h
      · cases h
    · cases h

/-! ## small ones -/
def evExtract (p : PV) (i : Nat) : Option PV := match p with | .tup ps => ps[i]? | _ => none

theorem repPs_get {rows : Rows} {β : Nat → Loc} {w : World} {X : Nat → Prop} : ∀ {ps : List PV} {vs : List Value}, repPs rows β w X ps vs → ∀ (j : Nat) (p : PV), ps[j]? = some p → ∃ u, vs[j]? = some u ∧ repP rows β w X p u
  | [], vs, h => by intro j x hx; simp at hx
  | c :: cs, vs, h => by
    unfold repPs at h
    obtain ⟨u, us, h1, h3, h4⟩ := h
    subst h1
    intro j x hx
    cases j with
    | zero => simp at hx; subst hx; exact ⟨u, rfl, h3⟩
    | succ j => simpa using repPs_get h4 j x (by simpa using hx)

theorem op_extract {P : Program} {o : Oper} {s : St} {x : Operand} {i : Nat} {q : PV} (ho : o.op = .extract x i) (h : evExtract (ev s.regs x) i = some q) : OpSound P o s (Eff.pureIf True q) := by
  unfold evExtract at h
  split at h
  · rename_i ps hx
    refine sound_pure fun B β X w a hr _ => ?_
    have hxx := hr.ev x
    rw [hx] at hxx
    obtain ⟨h1, h2⟩ := hxx
    unfold repP at h1
    obtain ⟨vs, h3, h4⟩ := h1
    obtain ⟨u, h5, h6⟩ := repPs_get h4 i q h
    refine ⟨u, ?_, h6, Scs.mem h2 q (List.mem_of_getElem? h)⟩
    simp [execOp, ho, h3, Instr.extract, h5]
  · cases h

theorem evs_ok {B : Base} {β : Nat → Loc} {X : Nat → Prop} {w : World} {a : Act} {s : St} (hr : SRel B β X w a s) : ∀ (xs : List Operand),
    repPs s.rows β w X (xs.map (ev s.regs)) (xs.map a.eval) ∧ Scs (· < s.nx) (xs.map (ev s.regs))
  | [] => ⟨by simp [repPs], trivial⟩
  | x :: xs => by
    obtain ⟨h1, h2⟩ := evs_ok hr xs
    simp only [List.map_cons]
    refine ⟨?_, (hr.ev x).2, h2⟩
    unfold repPs
    exact ⟨_, _, rfl, (hr.ev x).1, h1⟩

theorem op_makeFunc {P : Program} {o : Oper} {s : St} {fn : Fn} {f c : Array Operand} (ho : o.op = .makeFunc fn f c) :
    OpSound P o s (Eff.pureIf True (.clo fn (f.toList.map (ev s.regs)) (c.toList.map (ev s.regs)))) :=
  sound_pure fun B β X w a hr _ => by
    refine ⟨.func fn (f.map a.eval) (c.map a.eval), by simp only [execOp, ho, Instr.makeFunc, Sem.run_bind, Sem.run_pure, Result.andThen_ok], ?_, (evs_ok hr f.toList).2, (evs_ok hr c.toList).2⟩
    unfold repP
    exact ⟨f.toList.map a.eval, c.toList.map a.eval, by congr 1 <;> (apply Array.toList_inj.1; simp), (evs_ok hr f.toList).1, (evs_ok hr c.toList).1⟩

def notIface (P : Program) (t : TypeId) : Bool := match tyOf P t with | some ty => (match ty.k with | .iface => false | _ => true) | none => false

theorem op_makeInterface {P : Program} {o : Oper} {s : St} {t : TypeId} {x : Operand} (ho : o.op = .makeInterface t x) (h : notIface P t = true) :
    OpSound P o s (Eff.pureIf True (.ifc t (ev s.regs x))) :=
  sound_pure fun B β X w a hr _ => by
    refine ⟨.iface t (a.eval x), ?_, ?_, (hr.ev x).2⟩
    · unfold notIface at h
      split at h
      · rename_i ty ht
        obtain ⟨i, u, h1, h2, h3, _⟩ := tyOf_spec ht
        split at h
        · cases h
        · rename_i hk
          simp only [execOp, ho, Instr.makeInterface, Sem.run_bind, run_underlying h2, Result.andThen_ok]
          rw [h3] at hk
          cases u <;> first | rfl | (simp [tkOf] at hk)
      · cases h
    · unfold repP
      exact ⟨_, rfl, (hr.ev x).1⟩

/-! ## buildSlice -/
def bsEl (sz : Nat) : Nat → List (Nat × PV) → Option (List (List DV))
  | _, [] => some []
  | k, (i, p) :: rest =>
    if i = k then
      match (match p with | .d (.agg cs) => some cs | .d (.lit v) => if oc v then some [.lit v] else none | .d (.sl a b) => some [.sl a b] | _ => none) with
      | some ds => if ds.length = sz then match bsEl sz (k + 1) rest with | some el => some (ds :: el) | none => none else none
      | none => none
    else none

theorem bsEl_len {sz : Nat} : ∀ {parts : List (Nat × PV)} {k : Nat} {el : List (List DV)}, bsEl sz k parts = some el → el.length = parts.length
  | [], k, el, h => by simp [bsEl] at h; subst h; rfl
  | (i, p) :: rest, k, el, h => by
    unfold bsEl at h
    split at h
    · split at h
      · split at h
        · split at h
          · rename_i el' hel
            simp only [Option.some.injEq] at h; subst h
            simp [bsEl_len hel]
          · cases h
        · cases h
      · cases h
    · cases h

theorem bsEl_ok {rows : Rows} {β : Nat → Loc} {w : World} {X : Nat → Prop} {sz : Nat} : ∀ {parts : List (Nat × PV)} {vparts : List (Nat × Value)} {k : Nat} {el : List (List DV)} {cs : Array Value},
    bsEl sz k parts = some el → parts.length = vparts.length → (∀ (j i : Nat) (p : PV) (i' : Nat) (v : Value), parts[j]? = some (i, p) → vparts[j]? = some (i', v) → i' = i ∧ repP rows β w X p v) →
    k * sz + parts.length * sz ≤ cs.size →
    ∃ cs' vs, Instr.fill (fun i => some (i * sz, sz)) cs vparts = some cs' ∧ repss w X sz el vs ∧ cs'.toList = cs.toList.take (k * sz) ++ vs ++ cs.toList.drop (k * sz + parts.length * sz)
  | [], [], k, el, cs, h, _, _, _ => by
    simp only [bsEl, Option.some.injEq] at h; subst h
    exact ⟨cs, [], rfl, by simp [repss], by simp⟩
  | [], _ :: _, k, el, cs, h, hl, _, _ => by simp at hl
  | _ :: _, [], k, el, cs, h, hl, _, _ => by simp at hl
  | (i, p) :: rest, (i', v) :: vrest, k, el, cs, h, hl, hp, hs => by
    obtain ⟨rfl, hpv⟩ := hp 0 i p i' v rfl rfl
    unfold bsEl at h
    split at h
    · rename_i hik
      subst hik
      split at h
      · rename_i ds hds
        split at h
        · rename_i hdl
          split at h
          · rename_i el' hel
            simp only [Option.some.injEq] at h; subst h
            have hc : reps w X ds v.cells.toList := by
              split at hds
              · simp only [Option.some.injEq] at hds; subst hds
                unfold repP rep at hpv
                obtain ⟨vs, rfl, h2⟩ := hpv
                simpa [Value.cells] using h2
              · split at hds
                · rename_i ho
                  simp only [Option.some.injEq] at hds; subst hds
                  unfold repP rep at hpv
                  subst hpv
                  rw [cells_one ho]
                  unfold reps
                  exact ⟨_, _, rfl, ho, by simp [rep], by simp [reps]⟩
                · cases hds
              · simp only [Option.some.injEq] at hds; subst hds
                unfold repP at hpv
                have hpv' := hpv
                unfold rep at hpv
                obtain ⟨a, cap, vs, rfl, _⟩ := hpv
                unfold reps
                exact ⟨_, _, rfl, rfl, hpv', by simp [reps]⟩
              · cases hds
            have hcl := reps_length hc
            simp only [Array.length_toList] at hcl
            simp only [List.length_cons, Nat.add_mul, Nat.one_mul] at hs
            rw [fill_cons (off := i' * sz) (size := sz) rfl (by omega) (by omega)]
            obtain ⟨cs', vs, f1, f2, f3⟩ := bsEl_ok (cs := (cs.toList.take (i' * sz) ++ v.cells.toList ++ cs.toList.drop (i' * sz + sz)).toArray) (vparts := vrest) hel (by simpa using hl) (fun j i p k v a b => hp (j + 1) i p k v a b)
              (by simp [hcl, hdl, Nat.add_mul]; omega)
            refine ⟨cs', v.cells.toList ++ vs, f1, ?_, ?_⟩
            · unfold repss
              exact ⟨_, _, rfl, by simp; omega, hc, f2⟩
            · rw [f3]
              have hA : (cs.toList.take (i' * sz) ++ v.cells.toList).length = (i' + 1) * sz := by simp [hcl, hdl, Nat.add_mul]; omega
              simp only [List.length_cons, Nat.add_mul, Nat.one_mul]
              have e1 : List.take ((i' + 1) * sz) (List.take (i' * sz) cs.toList ++ v.cells.toList ++ List.drop (i' * sz + sz) cs.toList) = List.take (i' * sz) cs.toList ++ v.cells.toList := by
                rw [List.take_append, List.take_of_length_le (by omega), hA]; simp
              have e2 : List.drop ((i' + 1) * sz + rest.length * sz) (List.take (i' * sz) cs.toList ++ v.cells.toList ++ List.drop (i' * sz + sz) cs.toList) = List.drop (i' * sz + (rest.length * sz + sz)) cs.toList := by
                rw [List.drop_append, List.drop_of_length_le (by omega), hA, List.drop_drop]
                simp only [List.nil_append]
                congr 1; rw [Nat.add_mul]; omega
              simp only [Nat.add_mul, Nat.one_mul] at e1 e2
              rw [e1, e2]
              simp
          · cases h
        · cases h
      · cases h
    · cases h

def evBS (P : Program) (s : St) (t : TypeId) (len : Nat) (parts : List (Nat × PV)) : Option Eff :=
  match tyOf P t with
  | some ty => match ty.k with
    | .slice e => match tyOf P e with
      | some ety => match ety.zero with
        | some _ => if parts.length = len && (len * ety.size ≤ 16777216 && len ≤ 16777216) then match bsEl ety.size 0 parts with
          | some el => some (effNew (.own ety.size el) s.nx (.own s.nx) True)
          | none => none
          else none
        | none => none
      | none => none
    | _ => none
  | none => none

theorem op_buildSlice {P : Program} {o : Oper} {s : St} {t : TypeId} {len : Nat} {parts : Array (Nat × Operand)} {e : Eff} (ho : o.op = .buildSlice t len parts)
    (h : evBS P s t len (parts.toList.map fun x => (x.1, ev s.regs x.2)) = some e) : OpSound P o s e := by
  unfold evBS at h
  split at h
  · rename_i ty ht
    split at h
    · rename_i et hk
      have hu := tyOf_slice ht hk
      split at h
      · rename_i ety he
        split at h
        · rename_i z hz
          split at h
          · rename_i hc
            simp only [Bool.and_eq_true, decide_eq_true_eq] at hc
            split at h
            · rename_i el hel
              simp only [Option.some.injEq] at h; subst h
              intro B β X w a hr _
              have hlen := bsEl_len hel
              rw [hc.1] at hlen
              have hsize : ∀ (zc : Array Value), ((Array.range (len * ety.size)).map (fun x => zc[x % zc.size]!)).size = len * ety.size := by intro zc; simp
              generalize hzc : (if len * ety.size = 0 then #[] else z.cells) = zc
              obtain ⟨cs', vs, f1, f2, f3⟩ := bsEl_ok (rows := s.rows) (β := β) (w := w) (X := X) (vparts := parts.toList.map fun x => (x.1, a.eval x.2))
                (cs := (Array.range (len * ety.size)).map (fun x => zc[x % zc.size]!)) hel (by simp) (fun j i p k v h1 h2 => by
                simp only [List.getElem?_map, Option.map_eq_some_iff] at h1 h2
                obtain ⟨x, hx, hx'⟩ := h1
                obtain ⟨y, hy, hy'⟩ := h2
                rw [hx] at hy
                obtain rfl : x = y := by simpa using hy
                simp only [Prod.mk.injEq] at hx' hy'
                obtain ⟨rfl, rfl⟩ := hx'
                obtain ⟨rfl, rfl⟩ := hy'
                exact ⟨rfl, (hr.ev x.2).1⟩) (by rw [hc.1, hsize]; omega)
              have hvl := repss_length f2
              have hcs : cs'.toList = vs := by
                rw [f3, hc.1]
                simp only [Nat.zero_mul, List.take_zero, List.nil_append, Nat.zero_add]
                rw [List.drop_of_length_le (by simp)]
                simp
              have hmx : len ≤ maxLen := by
                have := hc.2.2; unfold maxLen; omega
              obtain ⟨β', m1, m2, m3⟩ := hr.mem.row et (cs := cs') (cap := len) (el := el) (sz := ety.size)
                (by rw [hcs, List.take_of_length_le (by omega)]; exact f2) (by omega) (by rw [← Array.length_toList, hcs, hvl, hlen]) hmx
              rw [hlen] at m2
              refine ⟨_, _, β', _, .inl ?_, hr.of_mem m1 (by omega) m3, m2, by show s.nx < s.nx + 1; omega⟩
              have hbig : ¬ (len * ety.size > 2 ^ 24) := by have := hc.2.1; omega
              have f1' : Instr.fill (fun i => some (i * ety.size, ety.size)) ((Array.range (len * ety.size)).map (fun x => zc[x % zc.size]!)) (parts.map fun x => (x.1, a.eval x.2)).toList = some cs' := by
                simpa using f1
              simp only [execOp, ho, Instr.buildSlice, Sem.run_bind, run_underlying hu, Result.andThen_ok, tyOf_size he, hbig, if_false, Sem.run_pure]
              by_cases h0 : len * ety.size = 0
              · rw [if_pos h0] at hzc ⊢
                subst hzc
                simp only [Sem.run_bind, Sem.run_pure, Result.andThen_ok, f1', run_newRow]
              · rw [if_neg h0] at hzc ⊢
                subst hzc
                simp only [Sem.run_bind, Sem.run_pure, Result.andThen_ok, tyOf_zero he hz, f1', run_newRow]
            · cases h
          · cases h
        · cases h
      · cases h
    · cases h
  · cases h
end Go.AM
