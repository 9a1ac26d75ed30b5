/- Proved here: what the functions of the program compute. No condition. -/
import Derived.Test.YtflpphgccjlkjaaT0
import Derived.Shelf.RegionOpenPlain
import Derived.WalkKit
import Derived.Lib.Walk
import Derived.Lib.SliceRun
import Derived.Lib.AppendZeros
import Derived.Lib.AppendZerosOnto
import Derived.Lib.Overlaps
import Derived.Shelf.Spec.SlicesInsert
import Derived.Laws.Externs
import Derived.Laws.IdiomCopy
set_option linter.all false
set_option linter.unusedSimpArgs false
set_option linter.unusedVariables false
set_option linter.unusedSimpArgs false
set_option linter.unusedVariables false
namespace Go.Proofs.Ytflpphgccjlkjaa
open Go Go.AM

theorem hP : Try.prog.follows .mixedOrders = true := by kernel_rfl

def str (s : List UInt8) : PV := .d (.lit (.string ⟨⟨s⟩⟩))
def bool (b : Bool) : PV := .d (.lit (.bool b))
def int (i : Int) : PV := .d (.lit (.int .i64 i))
def u64 (n : Nat) : PV := .d (.lit (.int .u64 n))
def errno (n : Int) : PV := .d (.lit (.int .i64 n))
def nilS : PV := .d (.lit (.slice none 0 0))
def byts (b : List UInt8) : PV := .d (.sl 1 (b.map encB))
theorem nvB (b : List UInt8) : nvRow (.own 1 (b.map encB)) := by
  intro e he x hx
  obtain ⟨c, _, rfl⟩ := List.mem_map.1 he
  simp only [encB, List.mem_singleton] at hx
  subst hx; trivial

def ixI : Option Nat → Int | some i => i | none => -1
theorem findIdx_any {α : Type} (p : α → Bool) (l : List α) : decide ((0 : Int) ≤ ixI (l.findIdx? p)) = l.any p := by
  rcases h : l.findIdx? p with _ | i
  · rw [List.findIdx?_eq_none_iff] at h
    have : l.any p = false := by rw [List.any_eq_false]; intro x hx; simp [h x hx]
    rw [this]; rfl
  · obtain ⟨h1, h2, _⟩ := List.findIdx?_eq_some_iff_getElem.1 h
    have : l.any p = true := by rw [List.any_eq_true]; exact ⟨_, List.getElem_mem h1, h2⟩
    rw [this]; simp [ixI]
end Go.Proofs.Ytflpphgccjlkjaa

set_option linter.unusedSimpArgs false
set_option linter.unusedVariables false
namespace Go.Proofs.Ytflpphgccjlkjaa
open Go Go.AM Go.Lib

/-! ## slices.Insert of a nil pointer among thirteen -/
theorem run_copyB {P : Program} (w : World) (dT sT ty e : TypeId) (b o dl dc sz n sl : Nat) (A : Array Value) (eA : TypeId) (frA : Nat × Nat) (src : Value) (vs : List Value) (hu : P.underlying dT = some (.slice e))
    (he : (Go.sizeOf e).run P w = .ok sz w) (hlen : (Builtin.lenOf src).run P w = .ok sl w) (hn : Nat.min sl dl = n) (hf : (Builtin.firstCells sz n src).run P w = .ok vs.toArray w)
    (hb : w.heap[b]? = some (.cells A eA frA)) (ht : Thaw frA A.size) (hfit : o + vs.length ≤ A.size) (hoc : ∀ u ∈ vs, oc u = true) :
    (Builtin.copy_ #[dT, sT] ty #[.slice (some ⟨b, o, none⟩) dl dc, src]).run P w = .ok (goInt n) (setBlk w b (.cells (A.toList.take o ++ vs ++ A.toList.drop (o + vs.length)).toArray eA frA)) := by
  have hst := run_storeCells (P := P) (off := o) vs 0 A w hb ht (by simpa using hfit) hoc
  simp only [Nat.add_zero] at hst
  simp [Builtin.copy_, run_underlying hu, hlen, hn, he, hf, hst]
theorem cells_first {P : Program} (w : World) (n b o len cap : Nat) (A : Array Value) (eA : TypeId) (frA : Nat × Nat) (hb : w.heap[b]? = some (.cells A eA frA)) (vs : List Value) (hv : vs = (A.toList.drop o).take n) (hl : o + n ≤ A.size) :
    (Builtin.firstCells 1 n (.slice (some ⟨b, o, none⟩) len cap)).run P w = .ok vs.toArray w := by
  refine run_firstCells_some w 1 n ⟨b, o, none⟩ len cap vs (by rw [hv]; simp; omega) fun j u hu => ?_
  rw [Addr.add_lit, cell_of_heap hb]
  rw [hv, List.getElem?_take] at hu
  split at hu
  · rw [List.getElem?_drop] at hu; simpa using hu
  · cases hu

theorem frozen_no {w : World} {b j : Nat} {cs : Array Value} {e : TypeId} {fr : Nat × Nat} {n : Nat} (h : w.heap[b]? = some (.cells cs e fr)) (ht : Thaw fr n) (hj : j < n) : w.frozen? ⟨b, j, none⟩ = false := by
  have := ht.2 j hj
  simp only [World.frozen?, h]
  rw [Bool.eq_false_iff]
  intro h'
  simp only [Bool.and_eq_true, decide_eq_true_eq] at h'
  exact this h'
theorem shape_of {w : World} {b : Nat} {cs : Array Value} {e : TypeId} {fr : Nat × Nat} (h : w.heap[b]? = some (.cells cs e fr)) : w.shape? b = some (e, cs.size) := by simp [World.shape?, h]

theorem lst13 {α : Type} (L : List α) (h : 14 ≤ L.length) (x : α) :
    (L.take 7 ++ (L.drop 6).take 7 ++ L.drop (7 + 7)).toArray.toList.take 6 ++ [x] ++ (L.take 7 ++ (L.drop 6).take 7 ++ L.drop (7 + 7)).toArray.toList.drop (6 + [x].length) = L.take 6 ++ [x] ++ (L.take 13).drop 6 ++ L.drop 14 := by
  have e1 : (L.drop 6).take 7 = (L.take 13).drop 6 := by rw [List.drop_take]
  have e7 : L.take 7 = L.take 6 ++ [L[6]] := List.take_succ_eq_append_getElem (by omega)
  have hP : (L.take 6).length = 6 := by simp; omega
  rw [e1, e7]
  simp only [Nat.reduceAdd, List.length_singleton]
  generalize L.take 6 = P at *
  generalize (L.take 13).drop 6 = Q at *
  generalize L.drop 14 = R at *
  have g1 : (P ++ [L[6]] ++ Q ++ R).take 6 = P := by
    rw [List.append_assoc, List.append_assoc]; exact List.take_left' hP
  have g2 : (P ++ [L[6]] ++ Q ++ R).drop 7 = Q ++ R := by
    rw [List.append_assoc (P ++ [L[6]])]; exact List.drop_left' (by simp [hP])
  rw [g1, g2]; simp

theorem ptrSz : ∀ w, (Go.sizeOf 55).run Try.prog w = .ok 1 w := fun w => by
    have : (Try.prog.info? 55).map (·.size) = some 1 := by kernel_rfl
    cases hq : Try.prog.info? 55 with
    | none => rw [hq] at this; cases this
    | some i => rw [hq] at this; simp at this; simp [sizeOf, typeInfo, hq, this]

set_option maxHeartbeats 4000000 in
set_option maxRecDepth 100000 in
theorem ins_room (w : World) (b vb c vc : Nat) (A V : Array Value) (eA eV : TypeId) (frA frV : Nat × Nat) (x : Value) (hb : w.heap[b]? = some (.cells A eA frA)) (hv : w.heap[vb]? = some (.cells V eV frV)) (hne : vb ≠ b)
    (hA : Thaw frA (A.size + 1)) (hV : Thaw frV (V.size + 1)) (hc : 14 ≤ c) (hcA : c ≤ A.size) (hx : V.toList.take 1 = [x]) (ho : ∀ u ∈ A.toList.take 13, oc u = true) (hox : oc x = true) (hcm : c ≤ 9223372036854775807) :
    Calls Try.prog 48 #[.slice (some ⟨b, 0, none⟩) 13 c, .int .i64 6, .slice (some ⟨vb, 0, none⟩) 1 vc] w fun e w' =>
      e = .returned (.slice (some ⟨b, 0, none⟩) 14 c) ∧ w' = setBlk w.drew b (.cells (A.toList.take 6 ++ [x] ++ (A.toList.take 13).drop 6 ++ A.toList.drop 14).toArray eA frA) := by
  have hu : Try.prog.underlying 52 = some (.slice 55) := Try.underlying52
  have hVs : 1 ≤ V.size := by
    have := congrArg List.length hx
    simp at this; omega
  have hlt := (Array.getElem?_eq_some_iff.1 hb).1
  have hov : ∀ lb cb, (callFunc 73 #[.slice (some ⟨vb, 0, none⟩) 1 vc, .slice (some ⟨b, 7, none⟩) lb cb]).run Try.prog w = .ok (.value (.bool false)) w := fun lb cb => by
    rw [run_callFunc_extern Try.func73 (by kernel_rfl) (by kernel_rfl) (by kernel_rfl) (e := Extern.SlicesOverlaps.overlaps #[52, 52] #[4]) (by kernel_rfl),
      Lib.run_overlaps_apart w 52 4 55 hu 1 ptrSz ⟨vb, 0, none⟩ ⟨b, 7, none⟩ 1 vc lb cb hne eV eA V.size A.size (shape_of hv) (shape_of hb) (by omega) (frozen_no hv hV (by omega)) (frozen_no hv hV (by omega))]
    rfl
  -- the first copy: the tail moves by one
  have hbd : w.drew.heap[b]? = some (.cells A eA frA) := hb
  have hl7 : ((A.toList.drop 6).take 7).length = 7 := by simp; omega
  have hoc7 : ∀ u ∈ (A.toList.drop 6).take 7, oc u = true := fun u hu => ho u (by
    have : (A.toList.drop 6).take 7 = (A.toList.take 13).drop 6 := by rw [List.drop_take]
    rw [this] at hu; exact List.mem_of_mem_drop hu)
  obtain ⟨A1, hA1⟩ : ∃ A1, A1 = (A.toList.take 7 ++ (A.toList.drop 6).take 7 ++ A.toList.drop (7 + ((A.toList.drop 6).take 7).length)).toArray := ⟨_, rfl⟩
  have hA1s : A1.size = A.size := by rw [hA1]; simp; omega
  have hcp1 : ∀ ty dc sc, (Builtin.copy_ #[52, 52] ty #[.slice (some ⟨b, 7, none⟩) 7 dc, .slice (some ⟨b, 6, none⟩) 8 sc]).run Try.prog w.drew = .ok (goInt 7) (setBlk w.drew b (.cells A1 eA frA)) := fun ty dc sc => by
    rw [hA1]
    exact run_copyB w.drew _ _ ty 55 b 7 7 dc 1 7 8 A eA frA _ _ hu (ptrSz _) (by simp [Builtin.lenOf]) (by decide) (cells_first w.drew 7 b 6 8 sc A eA frA hbd _ rfl (by omega)) hbd (hA.mono (by omega)) (by rw [hl7]; omega) hoc7
  obtain ⟨W1, hW1⟩ : ∃ W1, W1 = setBlk w.drew b (.cells A1 eA frA) := ⟨_, rfl⟩
  rw [← hW1] at hcp1
  have hb1 : W1.heap[b]? = some (.cells A1 eA frA) := by rw [hW1]; exact setBlk_get hlt
  have hv1 : W1.heap[vb]? = some (.cells V eV frV) := by
    rw [hW1]; simp only [setBlk, Array.getElem?_setIfInBounds]; rw [if_neg (fun e => hne e.symm)]; exact hv
  have hcp2 : ∀ ty dc, (Builtin.copy_ #[52, 52] ty #[.slice (some ⟨b, 6, none⟩) 8 dc, .slice (some ⟨vb, 0, none⟩) 1 vc]).run Try.prog W1 = .ok (goInt 1) (setBlk W1 b (.cells (A1.toList.take 6 ++ [x] ++ A1.toList.drop (6 + [x].length)).toArray eA frA)) := fun ty dc =>
    run_copyB W1 _ _ ty 55 b 6 8 dc 1 1 1 A1 eA frA _ [x] hu (ptrSz _) (by simp [Builtin.lenOf]) (by decide) (cells_first W1 1 vb 0 1 vc V eV frV hv1 [x] (by simpa using hx.symm) (by omega)) hb1 (hA.mono (by omega)) (by simp; omega) (by simpa using hox)
  obtain ⟨W2, hW2⟩ : ∃ W2, W2 = setBlk W1 b (.cells (A1.toList.take 6 ++ [x] ++ A1.toList.drop (6 + [x].length)).toArray eA frA) := ⟨_, rfl⟩
  rw [← hW2] at hcp2
  have hfin : W2 = setBlk w.drew b (.cells (A.toList.take 6 ++ [x] ++ (A.toList.take 13).drop 6 ++ A.toList.drop 14).toArray eA frA) := by
    rw [hW2, hW1, setBlk_setBlk]
    congr 2
    rw [hA1, hl7]
    congr 1
    exact lst13 A.toList (by simp; omega) x
  rw [← hfin]
  clear hfin hb1 hv1 hW2 hW1 hA1s hA1 hbd hl7 hoc7 hx ho hox
  have mixed := hP
  have hw7 : IntKind.i64.wrap 7 = 7 := by decide
  have hb2 : ¬ (c = 7) := by omega
  have hb4 : ¬ (c = 6) := by omega
  have hcI : ¬ ((c : Int) < 14) := by omega
  have hcI2 : (14 : Int) ≤ (c : Int) := by omega
  go_enter Try.func48, Try.ntmps48
  go_wp2_with (simp only [hov])
  go_region_law_o (refine step_copy_runI rfl _ _ 52 52 rfl (.slice (some ⟨b, 7, none⟩) 7 (c - 7)) (.slice (some ⟨b, 6, none⟩) 8 (c - 6)) (by simp [Act.eval, Act.put]) (by simp [Act.eval, Act.put]) (hcp1 _ _ _) ?_)
  go_wp2_with (at_builtin; refine wpList_copy_runI _ rfl _ _ 52 52 rfl _ _ rfl rfl (hcp2 _ _) ?_)
  go_ret
  exact ⟨rfl, rfl⟩

theorem setBlk_wpush (w : World) (o o' : Obj) : setBlk (wpush w o) w.heap.size o' = wpush w o' := by
  unfold setBlk wpush
  simp only
  congr 1
  apply Array.ext_getElem?
  intro i
  rw [Array.getElem?_setIfInBounds, Array.getElem?_push, Array.getElem?_push]
  by_cases hi : i = w.heap.size
  · subst hi; simp
  · rw [if_neg (Ne.symm hi), if_neg hi, if_neg hi]

set_option maxHeartbeats 4000000 in
set_option maxRecDepth 100000 in
theorem ins_grow (w : World) (b vb c vc : Nat) (A V : Array Value) (eA eV : TypeId) (frA frV : Nat × Nat) (x : Value) (hb : w.heap[b]? = some (.cells A eA frA)) (hv : w.heap[vb]? = some (.cells V eV frV))
    (hc : 13 ≤ c) (hc' : c < 14) (hcA : c ≤ A.size) (hx : V.toList.take 1 = [x]) (ho : ∀ u ∈ A.toList.take 13, oc u = true) (hox : oc x = true) :
    Calls Try.prog 48 #[.slice (some ⟨b, 0, none⟩) 13 c, .int .i64 6, .slice (some ⟨vb, 0, none⟩) 1 vc] w fun e w' =>
      ∃ (G : Nat) (F : Array Value) (Z : List Value), 14 ≤ G ∧ G ≤ maxLen ∧ F.size = G ∧ F.toList = A.toList.take 6 ++ [x] ++ (A.toList.take 13).drop 6 ++ Z ∧ e = .returned (.slice (some ⟨w.heap.size, 0, none⟩) 14 G) ∧ w' = wpush w.drew.drew (.cells F 55) := by
  have hu : Try.prog.underlying 52 = some (.slice 55) := Try.underlying52
  obtain ⟨ti, hi, hi1, hi2, hi3⟩ : ∃ ti, Try.prog.info? 55 = some ti ∧ ti.size = 1 ∧ ti.bytes = 8 ∧ ti.zero = some (.pointer none) := by
    have h1 : (Try.prog.info? 55).map (·.size) = some 1 := by kernel_rfl
    have h2 : (Try.prog.info? 55).map (·.bytes) = some 8 := by kernel_rfl
    have h3 : (Try.prog.info? 55).bind (·.zero) = some (.pointer none) := by kernel_rfl
    cases hq : Try.prog.info? 55 with
    | none => rw [hq] at h1; cases h1
    | some i => rw [hq] at h1 h2 h3; simp at h1 h2 h3; exact ⟨i, rfl, h1, h2, h3⟩
  have hVs : 1 ≤ V.size := by
    have := congrArg List.length hx
    simp at this; omega
  have hlt := (Array.getElem?_eq_some_iff.1 hb).1
  have hltv := (Array.getElem?_eq_some_iff.1 hv).1
  have hu3 : Try.prog.underlying 3 = some (.int .i64) := Try.underlying3
  have hG := grownCap_ge w 14 c 55
  have hGm := grownCap_le_maxLen w 14 c 55 (by unfold maxLen; omega)
  have hap := Lib.run_append_grow_zeros (P := Try.prog) w 52 3 52 55 ti (.pointer none) .i64 .i64 hu hu3 hi hi3 (some ⟨b, 0, none⟩) 6 c (A.toList.take 6)
    (by rw [hi1]; exact cells_first w.drew 6 b 0 6 c A eA frA hb _ (by simp) (by omega)) 8 (by omega) (by omega) (by omega) (by omega) (by rw [hi2]; omega) (by rw [hi2]; exact growslice_fits (by omega) (by omega))
  obtain ⟨G, hGd⟩ : ∃ G, G = grownCap w 14 c 55 := ⟨_, rfl⟩
  obtain ⟨R0, hR0⟩ : ∃ R0 : Array Value, R0 = (A.toList.take 6).toArray ++ Builtin.zeroCells (Value.pointer none).cells 8 ++ Builtin.zeroCells (Value.pointer none).cells (G - 14) := ⟨_, rfl⟩
  have hap : ∀ ty, (Builtin.append_ #[52, 3] ty #[.slice (some ⟨b, 0, none⟩) 6 c, .int .i64 8]).run Try.prog w = .ok (.slice (some ⟨w.heap.size, 0, none⟩) 14 G) (wpush w.drew (.cells R0 55)) := fun ty => by
    rw [hR0, hGd]; exact hap
  rw [← hGd] at hG hGm
  have hsz0 : R0.size = G := by
    rw [hR0]; simp [Builtin.zeroCells, Value.cells]; omega
  have htk6 : R0.toList.take 6 = A.toList.take 6 := by
    rw [hR0]
    simp only [Array.toList_append]
    rw [List.append_assoc, List.take_left' (by simp; omega)]
  clear hR0 hGd
  have hbN : b ≠ w.heap.size := by omega
  have hvN : vb ≠ w.heap.size := by omega
  obtain ⟨W1, hW1⟩ : ∃ W1, W1 = wpush w.drew (.cells R0 55) := ⟨_, rfl⟩
  rw [← hW1] at hap
  have hb1 : W1.heap[b]? = some (.cells A eA frA) := by rw [hW1]; show (w.heap.push _)[b]? = _; rw [heap_push_old _ _ hlt]; exact hb
  have hv1 : W1.heap[vb]? = some (.cells V eV frV) := by rw [hW1]; show (w.heap.push _)[vb]? = _; rw [heap_push_old _ _ hltv]; exact hv
  have hn1 : W1.heap[w.heap.size]? = some (.cells R0 55 (0, 0)) := by rw [hW1]; exact wpush_get _ _
  obtain ⟨R1, hR1⟩ : ∃ R1, R1 = (R0.toList.take 6 ++ [x] ++ R0.toList.drop (6 + [x].length)).toArray := ⟨_, rfl⟩
  have hs1 : R1.size = G := by rw [hR1]; simp; omega
  obtain ⟨W2, hW2⟩ : ∃ W2, W2 = setBlk W1 w.heap.size (.cells R1 55 (0, 0)) := ⟨_, rfl⟩
  have hcp1 : ∀ ty dc, (Builtin.copy_ #[52, 52] ty #[.slice (some ⟨w.heap.size, 6, none⟩) 8 dc, .slice (some ⟨vb, 0, none⟩) 1 vc]).run Try.prog W1 = .ok (goInt 1) W2 := fun ty dc => by
    rw [hW2, hR1]
    exact run_copyB W1 _ _ ty 55 w.heap.size 6 8 dc 1 1 1 R0 _ (0, 0) _ [x] hu (ptrSz _) (by simp [Builtin.lenOf]) (by decide) (cells_first W1 1 vb 0 1 vc V eV frV hv1 [x] (by simpa using hx.symm) (by omega)) hn1 (Thaw_zero _) (by simp; omega) (by simpa using hox)
  have hW2' : W2 = wpush w.drew (.cells R1 55) := by rw [hW2, hW1]; exact setBlk_wpush w.drew _ _
  have hb2 : W2.drew.heap[b]? = some (.cells A eA frA) := by rw [hW2']; show (w.heap.push _)[b]? = _; rw [heap_push_old _ _ hlt]; exact hb
  have hn2 : W2.drew.heap[w.heap.size]? = some (.cells R1 55 (0, 0)) := by rw [hW2']; exact wpush_get _ _
  have hl7 : ((A.toList.drop 6).take 7).length = 7 := by simp; omega
  have e67 : (A.toList.drop 6).take 7 = (A.toList.take 13).drop 6 := by rw [List.drop_take]
  obtain ⟨R2, hR2⟩ : ∃ R2, R2 = (R1.toList.take 7 ++ (A.toList.drop 6).take 7 ++ R1.toList.drop (7 + ((A.toList.drop 6).take 7).length)).toArray := ⟨_, rfl⟩
  have hs2 : R2.size = G := by rw [hR2]; simp; omega
  obtain ⟨W3, hW3⟩ : ∃ W3, W3 = setBlk W2.drew w.heap.size (.cells R2 55 (0, 0)) := ⟨_, rfl⟩
  have hcp2 : ∀ ty dc sc, (Builtin.copy_ #[52, 52] ty #[.slice (some ⟨w.heap.size, 7, none⟩) 7 dc, .slice (some ⟨b, 6, none⟩) 7 sc]).run Try.prog W2.drew = .ok (goInt 7) W3 := fun ty dc sc => by
    rw [hW3, hR2]
    exact run_copyB W2.drew _ _ ty 55 w.heap.size 7 7 dc 1 7 7 R1 _ (0, 0) _ _ hu (ptrSz _) (by simp [Builtin.lenOf]) (by decide) (cells_first W2.drew 7 b 6 7 sc A eA frA hb2 _ rfl (by omega)) hn2 (Thaw_zero _) (by rw [hl7]; omega) (fun u hu' => ho u (by rw [e67] at hu'; exact List.mem_of_mem_drop hu'))
  have hW3' : W3 = wpush w.drew.drew (.cells R2 55) := by rw [hW3, hW2']; exact setBlk_wpush w.drew.drew _ _
  have hR2l : R2.toList = A.toList.take 6 ++ [x] ++ (A.toList.take 13).drop 6 ++ R1.toList.drop 14 := by
    have hP : (A.toList.take 6).length = 6 := by simp; omega
    have h1 : R1.toList.take 7 = A.toList.take 6 ++ [x] := by
      rw [hR1, htk6]
      simp only
      exact List.take_left' (by simp; omega)
    rw [hR2, hl7, h1, e67]
  have hwin : ∀ e w', e = Ending.returned (.slice (some ⟨w.heap.size, 0, none⟩) 14 G) → w' = W3 → ∃ (G : Nat) (F : Array Value) (Z : List Value), 14 ≤ G ∧ G ≤ maxLen ∧ F.size = G ∧ F.toList = A.toList.take 6 ++ [x] ++ (A.toList.take 13).drop 6 ++ Z ∧ e = .returned (.slice (some ⟨w.heap.size, 0, none⟩) 14 G) ∧ w' = wpush w.drew.drew (.cells F 55) :=
    fun e w' h1 h2 => ⟨G, R2, _, hG, hGm, hs2, hR2l, h1, h2.trans hW3'⟩
  refine Calls.mono (R := fun e w' => e = .returned (.slice (some ⟨w.heap.size, 0, none⟩) 14 G) ∧ w' = W3) ?_ fun e w' h => hwin e w' h.1 h.2
  have hG63 : G ≤ 9223372036854775807 := by unfold maxLen at hGm; omega
  clear hwin hR2l hW3' hW3 hs2 hR2 e67 hl7 hn2 hb2 hW2' hW2 hs1 hR1 hn1 hv1 hb1 hW1 htk6 hsz0 hGm hi hi1 hi2 hi3 ho hox hx
  have mixed := hP
  have hw7 : IntKind.i64.wrap 7 = 7 := by decide
  have hg6 : ¬ (G = 6) := by omega
  have hg7 : ¬ (G = 7) := by omega
  have hc6 : ¬ (c = 6) := by omega
  have hc7 : ¬ (c = 7) := by omega
  have hcI : ((c : Int) < 14) := by omega
  go_enter Try.func48, Try.ntmps48
  go_wp2_with (first
    | (at_builtin; refine Lib.wpList_append_run _ rfl _ _ _ _ rfl _ _ rfl rfl _ _ (hap _) ?_)
    | (at_builtin; refine wpList_copy_runI _ rfl _ _ 52 52 rfl _ _ rfl rfl (hcp1 _ _) ?_))
  go_region_law_o (refine step_copy_runI rfl _ _ 52 52 rfl (.slice (some ⟨w.heap.size, 7, none⟩) 7 (G - 7)) (.slice (some ⟨b, 6, none⟩) 7 (c - 6)) (by simp [Act.eval, Act.put]) (by simp [Act.eval, Act.put]) (hcp2 _ _ _) ?_)
  go_wp2
  go_ret
  exact ⟨rfl, rfl⟩

theorem newF (w : World) (o : Obj) : (wpush w o).heap.size = w.heap.size + 1 := by simp [wpush]

theorem kill2_rows (nt ps : List PV) (r : Row) : upd (upd (upd (lrows [.box nt, .box ps, .box [.d (.lit (.pointer none))]]) 1 .dead) 2 .dead) 3 r = lrows [.box nt, .dead, .dead, r] := by
  funext i
  simp only [upd]
  match i with
  | 0 => rfl
  | 1 => rfl
  | 2 => rfl
  | 3 => rfl
  | i + 4 => simp [lrows]

/-- slices.Insert(out, 6, nil), out of thirteen pointers -/
theorem insNil (nt ps : List PV) (hps : ps.length = 13) :
    AFun Try.prog 48 [.own 1, int 6, .own 2] [.box nt, .box ps, .box [.d (.lit (.pointer none))]] (.own 3) [.box nt, .dead, .dead, .box (ps.take 6 ++ [.d (.lit (.pointer none))] ++ ps.drop 6)] := by
  intro B β X w vs hkl hr0 hm hp
  have hnx : ([.box nt, .box ps, .box [.d (.lit (.pointer none))]] : List Row).length = 3 := rfl
  rw [hnx] at hm
  unfold repPs at hp
  obtain ⟨v0, vs0, rfl, h0, hp⟩ := hp
  unfold repPs at hp
  obtain ⟨v1, vs1, rfl, h1, hp⟩ := hp
  unfold repPs at hp
  obtain ⟨v2, vs2, rfl, h2, hp⟩ := hp
  unfold repPs at hp
  subst hp
  have h1 : v1 = .int .i64 6 := by simpa [int, repP, rep] using h1
  subst h1
  unfold repP at h0 h2
  obtain ⟨hc0, hv0⟩ := h0.2 ps rfl
  obtain ⟨hc1, hv1⟩ := h2.2 [.d (.lit (.pointer none))] rfl
  have r0 := hm.ok 1
  have r1 := hm.ok 2
  obtain ⟨b, A, eA, frA, a1, a2, a3, a4, a5, a6, a7, a8⟩ := r0
  obtain ⟨vb, V, eV, frV, b1, b2, b3, b4, b5, b6, b7, b8⟩ := r1
  rw [hps] at hc0 hv0 a5 a6
  rw [a1] at hv0
  rw [b1] at hv1
  simp only [List.length_singleton] at hc1 hv1 b5 b6
  subst hv0; subst hv1
  have hsc : Scs (· < 3) ps := hm.scr 1 ps rfl
  have hblk0 : rblk (β 1) (lrows [.box nt, .box ps, .box [.d (.lit (.pointer none))]] 1) = some b := by simp [lrows, rblk, a1]
  have hblk1 : rblk (β 2) (lrows [.box nt, .box ps, .box [.d (.lit (.pointer none))]] 2) = some vb := by simp [lrows, rblk, b1]
  have hne : vb ≠ b := fun e => by
    subst e
    have := hm.inj 1 2 vb hblk0 hblk1
    omega
  have hxv : V.toList.take 1 = [.pointer none] := by
    unfold repPs at b5
    obtain ⟨u, us, e, g1, g2⟩ := b5
    unfold repPs at g2
    rw [e, g2]
    have : u = .pointer none := by simpa [repP, rep] using g1
    rw [this]
  have hAs : 13 ≤ A.size := by
    have := repPs_length a5
    rw [hps] at this; simp at this; omega
  have hlt := (Array.getElem?_eq_some_iff.1 a3).1
  have hm1 := (hm.kill 1).kill 2
  have hCk : ∀ i, i < 3 → RowC (lrows [.box nt, .box ps, .box [.d (.lit (.pointer none))]] i) (upd (upd (lrows [.box nt, .box ps, .box [.d (.lit (.pointer none))]]) 1 .dead) 2 .dead i) ∧ (upd (upd (lrows [.box nt, .box ps, .box [.d (.lit (.pointer none))]]) 1 .dead) 2 .dead i ≠ .dead → β i = β i) := fun i hi => by
    refine ⟨?_, fun _ => rfl⟩
    match i, hi with
    | 0, _ => exact RowC.refl _
    | 1, _ => simp [upd, lrows, RowC]
    | 2, _ => simp [upd, lrows, RowC]
  have hnew : ∀ {us : List Value}, us = A.toList.take 13 → repPs (lrows [.box nt, .box ps, .box [.d (.lit (.pointer none))]]) β w X (ps.take 6 ++ [.d (.lit (.pointer none))] ++ ps.drop 6) (us.take 6 ++ [.pointer none] ++ us.drop 6) := fun {us} hus => by
    rw [← hus] at a5
    refine repPs_append (repPs_append (repPs_take 6 a5) ?_) (repPs_drop 6 a5)
    unfold repPs
    exact ⟨.pointer none, [], rfl, by simp [repP, rep], by simp [repPs]⟩
  have hnsc : Scs (· < 3) (ps.take 6 ++ [.d (.lit (.pointer none))] ++ ps.drop 6) := Scs.append (Scs.append (hsc.take 6) ⟨trivial, trivial⟩) (hsc.drop 6)
  have hnl : (ps.take 6 ++ [PV.d (.lit (.pointer none))] ++ ps.drop 6).length = 14 := by simp; omega
  generalize ps.take 6 ++ [PV.d (.lit (.pointer none))] ++ ps.drop 6 = NP at *
  have h13 : (A.toList.take 13).take 6 = A.toList.take 6 := by rw [List.take_take]; rfl
  have hl13 : (A.toList.take 13).length = 13 := by simp; omega
  have hP6 : (A.toList.take 6).length = 6 := by simp; omega
  have hD6 : ((A.toList.take 13).drop 6).length = 7 := by rw [List.length_drop, hl13]
  have hocN : ∀ u ∈ A.toList.take 6 ++ [.pointer none] ++ (A.toList.take 13).drop 6, oc u = true := fun u hu => by
    simp only [List.mem_append, List.mem_singleton] at hu
    rcases hu with (hu | rfl) | hu
    · exact a6 u (by rw [← h13] at hu; exact List.mem_of_mem_take hu)
    · rfl
    · exact a6 u (List.mem_of_mem_drop hu)
  have hnew0 := hnew rfl
  rw [h13] at hnew0
  by_cases hfit : 14 ≤ (β 1).cap
  · refine (ins_room w b vb (β 1).cap (β 2).cap A V eA eV frA frV (.pointer none) a3 b3 hne a4 b4 hfit a7 hxv a6 rfl (by unfold maxLen at a8; omega)).mono ?_
    rintro e w' ⟨rfl, rfl⟩
    have hm2 := hm1.drew (w' := w.drew) rfl rfl rfl rfl
    have hkeep : ∀ o', KeepX w X (setBlk w.drew b o') X := fun o' c _ hx => ⟨by
      simp only [setBlk, Array.getElem?_setIfInBounds]; rw [if_neg (fun e => hx (by subst e; exact a2))]; rfl, hx⟩
    have hCn : ∀ q, q < 3 → RowC (lrows [.box nt, .box ps, .box [.d (.lit (.pointer none))]] q) (upd (upd (upd (lrows [.box nt, .box ps, .box [.d (.lit (.pointer none))]]) 1 .dead) 2 .dead) 3 (.box NP) q) ∧ (upd (upd (upd (lrows [.box nt, .box ps, .box [.d (.lit (.pointer none))]]) 1 .dead) 2 .dead) 3 (.box NP) q ≠ .dead → upd β 3 ⟨some ⟨b, 0, none⟩, (β 1).cap⟩ q = β q) := fun q hq => by
      rw [upd_ne _ _ (show q ≠ 3 by omega), upd_ne β _ (show q ≠ 3 by omega)]; exact hCk q hq
    have htk : List.take NP.length (A.toList.take 6 ++ [Value.pointer none] ++ (A.toList.take 13).drop 6 ++ A.toList.drop 14) = A.toList.take 6 ++ [.pointer none] ++ (A.toList.take 13).drop 6 := by
      rw [hnl]; exact List.take_left' (by simp only [List.length_append, hP6, hD6, List.length_singleton])
    have hadopt := hm2.adopt b (.cells (A.toList.take 6 ++ [Value.pointer none] ++ (A.toList.take 13).drop 6 ++ A.toList.drop 14).toArray eA frA) ⟨some ⟨b, 0, none⟩, (β 1).cap⟩ (.box NP)
      a2 hlt (fun q hq => by
        match q with
        | 0 =>
          have h00 : rblk (β 0) (lrows [.box nt, .box ps, .box [.d (.lit (.pointer none))]] 0) = some b := hq
          have := hm.inj 0 1 b h00 hblk0
          omega
        | 1 => simp [upd, rblk] at hq
        | 2 => simp [upd, rblk] at hq
        | q + 3 => simp [upd, lrows, rblk] at hq) (fun h0 => hm.lent 1 b hblk0 h0)
      (by
        have hsz : (A.toList.take 6 ++ [Value.pointer none] ++ (A.toList.take 13).drop 6 ++ A.toList.drop 14).toArray.size = A.size := by simp only [List.size_toArray, List.length_append, hP6, hD6, List.length_singleton, List.length_drop, Array.length_toList]; omega
        refine ⟨b, _, eA, frA, rfl, a2, setBlk_get hlt, ?_, ?_, ?_, by rw [hsz]; exact a7, a8⟩
        · rw [hsz]; exact a4
        · show repPs _ _ _ _ NP (List.take NP.length (A.toList.take 6 ++ [Value.pointer none] ++ (A.toList.take 13).drop 6 ++ A.toList.drop 14))
          rw [htk]; exact repPs_mono (hkeep _) hCn _ _ hnsc hnew0
        · show ∀ u ∈ List.take NP.length (A.toList.take 6 ++ [Value.pointer none] ++ (A.toList.take 13).drop 6 ++ A.toList.drop 14), _
          rw [htk]; exact hocN)
      (by simp [rblk]) (fun c hc => by cases hc; exact hnsc)
    rw [kill2_rows] at hadopt
    refine ⟨_, _, X, rfl, hadopt.1, ?_, by show 3 < 4; omega⟩
    unfold repP
    refine ⟨fun sz el hel => (by cases hel), fun c hc => ?_⟩
    cases hc
    rw [hnl]
    exact ⟨by rw [upd_same]; exact hfit, by rw [upd_same]⟩
  · refine (ins_grow w b vb (β 1).cap (β 2).cap A V eA eV frA frV (.pointer none) a3 b3 hc0 (by omega) a7 hxv a6 rfl).mono ?_
    rintro e w' ⟨G, F, Z, hG, hGm, hFs, hF, rfl, rfl⟩
    have hm2 := hm1.drew (w' := w.drew.drew) rfl rfl rfl rfl
    have htk : F.toList.take NP.length = A.toList.take 6 ++ [.pointer none] ++ (A.toList.take 13).drop 6 := by
      rw [hF, hnl]; exact List.take_left' (by simp only [List.length_append, hP6, hD6, List.length_singleton])
    obtain ⟨β', q1, _, q2, q3⟩ := hm2.pbox 55 G (cs := F) (ps := NP)
      (by rw [htk]; exact repPs_mono (KeepX.heap (w := w) (w' := w.drew.drew) rfl) hCk _ _ hnsc hnew0) (by rw [htk]; exact hocN) hnsc (by omega) hGm
    have q2 := q2 (by omega)
    rw [kill2_rows] at q1 q2
    rw [hnl] at q2
    exact ⟨_, β', _, rfl, q1, q2, by show 3 < 4; omega⟩
end Go.Proofs.Ytflpphgccjlkjaa

set_option linter.unusedSimpArgs false
set_option linter.unusedVariables false
namespace Go.Proofs.Ytflpphgccjlkjaa
open Go Go.AM

abbrev nilP : PV := .d (.lit (.pointer none))
/-- where a note's numbers are -/
def nums : List PV := [.ptr 0 1, .ptr 0 2, .ptr 0 3, .ptr 0 4, .ptr 0 5, .ptr 0 6, nilP, .ptr 0 8, .ptr 0 9, .ptr 0 10, .ptr 0 11, .ptr 0 12, .ptr 0 13, .ptr 0 14]
def lead6 : List PV := [.ptr 0 1, .ptr 0 2, .ptr 0 3, .ptr 0 4, .ptr 0 5, .ptr 0 6]
def lvs (i : Nat) : List PV := (List.range i).map fun j => .ptr 0 (8 + j)
theorem lvs_succ (i : Nat) : lead6 ++ lvs i ++ [.ptr 0 (8 + i)] = lead6 ++ lvs (i + 1) := by
  unfold lvs
  rw [List.range_succ, List.map_append, List.append_assoc]; rfl
theorem lvs_len (i : Nat) : (lead6 ++ lvs i).length = 6 + i := by simp [lead6, lvs]; omega
theorem scBs_lvs (n : Nat) (hn : 0 < n) : ∀ l : List Nat, scBs n (l.map fun j => PV.ptr 0 (8 + j)) = true
  | [] => rfl
  | a :: l => by simp only [List.map_cons, scBs, scB, scBs_lvs n hn l, Bool.and_true, decide_eq_true_eq]; exact hn
theorem scBs_app (n : Nat) : ∀ a b : List PV, scBs n (a ++ b) = (scBs n a && scBs n b)
  | [], b => by simp [scBs]
  | p :: a, b => by simp only [List.cons_append, scBs, scBs_app n a b, Bool.and_assoc]
theorem rens_lvs (σ : Nat → Nat) (h : σ 0 = 0) (i : Nat) : rens σ (lead6 ++ lvs i) = lead6 ++ lvs i := by
  have aux : ∀ l : List Nat, rens σ (l.map fun j => PV.ptr 0 (8 + j)) = l.map fun j => PV.ptr 0 (8 + j) := by
    intro l
    induction l with
    | nil => rfl
    | cons a l ih => simp only [List.map_cons, rens, ren, h, ih]
  simp only [lead6, List.cons_append, List.nil_append, rens, ren, h]
  unfold lvs
  rw [aux]
theorem frzs_lvs (rows : AM.Rows) (F : List Nat) (h : 0 ∉ F) (i : Nat) : frzs rows F (lead6 ++ lvs i) = lead6 ++ lvs i := by
  have aux : ∀ l : List Nat, frzs rows F (l.map fun j => PV.ptr 0 (8 + j)) = l.map fun j => PV.ptr 0 (8 + j) := by
    intro l
    induction l with
    | nil => rfl
    | cons a l ih => simp only [List.map_cons, frzs, frz, h, if_false, ih]
  simp only [lead6, List.cons_append, List.nil_append, frzs, frz, h, if_false]
  unfold lvs
  rw [aux]

theorem box_lvs (rows : AM.Rows) (F ρ : List Nat) {i : Nat} (h : 0 ∉ F) (hρ : ρ.getD 0 0 = 0) : frzRow rows F (.box (lead6 ++ lvs i)) = renRow (fun i => ρ.getD i 0) (.box (lead6 ++ lvs i)) := by
  simp only [frzRow, renRow, frzs_lvs rows F h]
  rw [rens_lvs (fun i => ρ.getD i 0) hρ]

/-- a note's cells -/
def bxN (c : Fin 16 → DV) : Row := .box [.d (c 0), .d (c 1), .d (c 2), .d (c 3), .d (c 4), .d (c 5), .d (c 6), .d (c 7), .d (c 8), .d (c 9), .d (c 10), .d (c 11), .d (c 12), .d (c 13), .d (c 14), .d (c 15)]
theorem scr_lvs (c : Fin 16 → DV) (i : Nat) : ([bxN c, .box (lead6 ++ lvs i)].all (scRow 2)) = true := by
  simp only [List.all_cons, List.all_nil, Bool.and_true, scRow, bxN, scBs, scB, Bool.true_and, scBs_app]
  unfold lvs
  rw [scBs_lvs 2 (by decide)]; rfl

set_option maxRecDepth 8000 in
set_option maxHeartbeats 2000000 in
theorem noteNumbers (c : Fin 16 → DV) : AFun Try.prog 23 [.ptr 0 0] [bxN c] (.own 1) [bxN c, .box nums] := by
  refine AFun.of_walk hP Try.func23 rfl rfl rfl (by simp) rfl ?_
  simp only [Try.f23, bxN, am, simprocAttr, tys]
  refine ⟨by kernel_rfl, ?_⟩
  refine ALoopW.intro 43 1 (ι := { i : Nat // i ≤ 7 }) (fun i => [(0, .ptr 0 0), (3, .own 1), (4, int 6), (27, int i.1)]) (fun i => [bxN c, .box (lead6 ++ lvs i.1)]) (fun i => 7 - i.1) ⟨0, by omega⟩ [] [0, 1153] ?_ (fun ⟨i, hi⟩ => ?_)
  · exact ⟨rfl, rfl, by simp, (fun i hi => .inr ((by decide : ∀ i, i < 1 → ([0, 1153] : List Nat).getD i 0 = i) i hi)), ⟨.inr rfl, .inr rfl, .inr rfl, .inr rfl, trivial⟩, ⟨.inr ⟨by decide, rfl⟩, .inr ⟨by decide, rfl⟩, trivial⟩, rfl, by decide, rfl, scr_lvs c 0⟩
  simp only
  rcases Nat.lt_or_ge i 7 with hlt | hge
  · have hltI : ((i : Int) < 7) := by omega
    have e1 : IntKind.i64.wrap ((i : Int) + 1) = ((i + 1 : Nat) : Int) := by rw [IntWalk.i64_in _ (by omega)]; simp
    have hll := lvs_len i
    simp only [int, bxN, hltI, e1, Int.natCast_nonneg, Int.toNat_natCast, Nat.mul_one, hll, lvs_succ, am, simprocAttr, tys]
    refine ⟨by omega, ⟨i + 1, by omega⟩, [], [0, 3], ?_, by show 7 - (i + 1) < 7 - i; omega⟩
    exact ⟨rfl, rfl, by simp, (fun i hi => .inr ((by decide : ∀ i, i < 1 → ([0, 3] : List Nat).getD i 0 = i) i hi)), ⟨.inr rfl, .inr rfl, .inr rfl, .inr rfl, trivial⟩, ⟨.inr ⟨by decide, rfl⟩, .inr ⟨by decide, box_lvs _ _ _ (by decide) rfl⟩, trivial⟩, rfl, by decide, rfl, scr_lvs c (i + 1)⟩
  · have hltI : ¬ ((i : Int) < 7) := by omega
    obtain rfl : i = 7 := by omega
    simp only [int, bxN, hltI, am, simprocAttr, tys]
    refine ACall.of (insNil [.d (c 0), .d (c 1), .d (c 2), .d (c 3), .d (c 4), .d (c 5), .d (c 6), .d (c 7), .d (c 8), .d (c 9), .d (c 10), .d (c 11), .d (c 12), .d (c 13), .d (c 14), .d (c 15)] (lead6 ++ lvs 7) (lvs_len 7)) [0, 1, 2] [] rfl (by simp) (by simp) (by simp) (by repeat' (first | exact trivial | exact .inl rfl | exact .inr rfl | exact .inr ⟨rfl, rfl, rfl, by simp; done⟩ | exact .inr ⟨rfl, by simp; done⟩ | exact .inr ⟨rfl, rfl, by simp; done⟩ | apply And.intro)) (by repeat' (first | exact trivial | rfl | exact (tkC_ren.1 _ _).symm | (simp; done) | apply And.intro)) (by first | exact .inl rfl | (refine .inr ⟨trivial, ?_⟩; first | (intro row h; rcases List.mem_singleton.1 h with rfl; exact nvB _) | (intro row h; cases h; done) | (simp; done)) | (refine .inr ⟨by simp [nvP, nvP.nvPs, nvD, nilS, errno], ?_⟩; first | (intro row h; rcases List.mem_singleton.1 h with rfl; exact nvB _) | (intro row h; cases h; done) | (simp [nvRow, nvD, nvP]; done))) ?_
    simp only [FinR, evRes, evRVs, evRV, am, simprocAttr, tys]
    exact ⟨_, [], [0, 3], rfl, ⟨rfl, rfl, by simp, (fun i hi => .inr ((by decide : ∀ i, i < 1 → ([0, 3] : List Nat).getD i 0 = i) i hi)), trivial, ⟨.inr ⟨by decide, rfl⟩, .inr ⟨by decide, rfl⟩, trivial⟩, rfl, by decide, rfl, (by first | rfl | simp [scRow, tkC_scs])⟩, rfl, rfl⟩
theorem noteNumbersL (c : Fin 16 → DV) : AFun Try.prog 23 [.ptr 0 0] [.box [.d (c 0), .d (c 1), .d (c 2), .d (c 3), .d (c 4), .d (c 5), .d (c 6), .d (c 7), .d (c 8), .d (c 9), .d (c 10), .d (c 11), .d (c 12), .d (c 13), .d (c 14), .d (c 15)]] (.own 1) [.box [.d (c 0), .d (c 1), .d (c 2), .d (c 3), .d (c 4), .d (c 5), .d (c 6), .d (c 7), .d (c 8), .d (c 9), .d (c 10), .d (c 11), .d (c 12), .d (c 13), .d (c 14), .d (c 15)], .box nums] := noteNumbers c
end Go.Proofs.Ytflpphgccjlkjaa

set_option linter.unusedSimpArgs false
set_option linter.unusedVariables false
namespace Go.Proofs.Ytflpphgccjlkjaa
open Go Go.AM

/-- a label, as it comes in -/
abbrev Lab := List UInt8 × List UInt8 × Unit
def encL (x : Lab) : List DV := [.lit (.string ⟨⟨x.1⟩⟩), .lit (.string ⟨⟨x.2.1⟩⟩)]

theorem findIdx_step {α : Type} (p : α → Bool) (l : List α) (i : Nat) (hi : i < l.length) (h : (l.take i).findIdx? p = none) : (l.take (i + 1)).findIdx? p = if p l[i] then some i else none := by
  rw [List.take_succ_eq_append_getElem hi, List.findIdx?_append, h]
  simp [List.findIdx?_cons, Nat.min_eq_left (Nat.le_of_lt hi)]

abbrev Ask := UInt8 × List UInt8 × List UInt8 × Unit
def encA (x : Ask) : List DV := [.lit (.int .u8 x.1.toNat), .lit (.string ⟨⟨x.2.1⟩⟩), .lit (.string ⟨⟨x.2.2.1⟩⟩)]

theorem u8eq (a : UInt8) (k : Nat) (hk : k < 256) : ((a.toNat : Int) == (k : Int)) = decide (a = UInt8.ofNat k) := by
  rw [Bool.eq_iff_iff]
  simp only [beq_iff_eq, decide_eq_true_eq]
  constructor
  · intro h; apply UInt8.toNat_inj.1; simp; omega
  · intro h; subst h; simp; omega

def okL (x : Lab) : Bool := decide (x.1.length ≤ 100) && decide (x.2.1.length ≤ 100)
def fewL (l : List Lab) : List Lab := (l.take 12).takeWhile okL

theorem takeWhile_stop {α : Type} (p : α → Bool) : ∀ (l : List α) (i : Nat), (∀ x ∈ l.take i, p x = true) → (∀ x, l[i]? = some x → p x = false) → l.takeWhile p = l.take i
  | [], i, _, _ => by simp
  | x :: l, 0, _, h => by simp [List.takeWhile, h x rfl]
  | x :: l, i + 1, h1, h2 => by
    rw [List.takeWhile_cons_of_pos (h1 x (by simp)), List.take_succ_cons, takeWhile_stop p l i (fun y hy => h1 y (by simp [hy])) (fun y hy => h2 y (by simpa using hy))]

theorem fewL_at (l : List Lab) (i : Nat) (hi : i ≤ 12) (h : ∀ x ∈ l.take i, okL x = true) (hs : i = 12 ∨ i = l.length ∨ ∃ x, l[i]? = some x ∧ okL x = false) : fewL l = l.take i := by
  unfold fewL
  rw [takeWhile_stop okL (l.take 12) i (fun x hx => h x (by rw [List.take_take] at hx; rw [Nat.min_eq_left hi] at hx; exact hx)) (fun x hx => ?_)]
  · rw [List.take_take, Nat.min_eq_left hi]
  · rw [List.getElem?_take] at hx
    split at hx
    · rename_i hlt
      rcases hs with rfl | rfl | ⟨y, hy, hb⟩
      · omega
      · simp at hx
      · rw [hy] at hx; cases hx; exact hb
    · cases hx

end Go.Proofs.Ytflpphgccjlkjaa

set_option linter.unusedSimpArgs false
set_option linter.unusedVariables false
namespace Go.Proofs.Ytflpphgccjlkjaa
open Go Go.AM

def eqLb (x y : Lab) : Bool := x.1 == y.1 && x.2.1 == y.2.1
theorem eqLb_iff (x y : Lab) : eqLb x y = true ↔ x = y := by
  obtain ⟨a, b, ⟨⟩⟩ := x
  obtain ⟨d, e, ⟨⟩⟩ := y
  simp [eqLb]
theorem eqLb_cells (x y : Lab) : eqLits [.string, .string] (encL x) (encL y) = some (eqLb x y) := by
  simp only [encL, eqLits, eqK, bl_toList, if_true, Bool.and_true, eqLb]

theorem same5 (x y : List Lab) (hx : x.length ≤ 9223372036854775807) (hy : y.length ≤ 9223372036854775807) : AFun Try.prog 83 [.d (.sl 2 (x.map encL)), .d (.sl 2 (y.map encL))] [] (bool (decide (x = y))) [] := by
  refine AFun.of_walk hP Try.func83 rfl rfl rfl (by simp) rfl ?_
  rcases hlen : (((x.length : Nat) : Int) != (y.length : Int)) with _ | _
  · have hle : x.length = y.length := by simp at hlen; omega
    simp only [Try.f83, hlen, am, simprocAttr, tys]
    refine ALoopW.intro 26 0 (ι := { i : Nat // i ≤ x.length ∧ x.take i = y.take i }) (fun i => [(0, .d (.sl 2 (x.map encL))), (1, .d (.sl 2 (y.map encL))), (5, int i.1)]) (fun _ => []) (fun i => x.length - i.1) ⟨0, by omega, by simp⟩ [] [] ?_ (fun ⟨i, hi, heq⟩ => ?_)
    · exact Ent.plain rfl rfl rfl (⟨.inr rfl, .inr rfl, .inr rfl, trivial⟩) rfl
    rcases Nat.lt_or_ge i x.length with hlt | hge
    · have hlt' : i < y.length := by omega
      have hb : x[i]? = some x[i] := List.getElem?_eq_getElem hlt
      have hb' : y[i]? = some y[i] := List.getElem?_eq_getElem hlt'
      have hlt2 : ((i : Int) < x.length) := by omega
      have hlt3 : ((i : Int) < y.length) := by omega
      have e1 : IntKind.i64.wrap ((i : Int) + 1) = ((i + 1 : Nat) : Int) := by rw [IntWalk.i64_in _ (by omega)]; simp
      have hc := eqLb_cells x[i] y[i]
      rcases hq : eqLb x[i] y[i] with _ | _
      · rw [hq] at hc
        have hne : ¬ x = y := by
          intro h
          have : x[i] = y[i] := by simp only [h]
          rw [(eqLb_iff _ _).2 this] at hq; cases hq
        have hd : decide (x = y) = false := decide_eq_false hne
        simp only [encL] at hc
        simp only [int, hb, hb', hlt2, hlt3, encL, hc, hd, bool, Int.natCast_nonneg, FinR, evRes, evRVs, evRV, am, simprocAttr, tys]
        exact ⟨by kernel_rfl, ⟨_, [], [], rfl, Ent.plain rfl rfl rfl trivial rfl, rfl, rfl⟩⟩
      · rw [hq] at hc
        have he := (eqLb_iff _ _).1 hq
        simp only [encL] at hc
        simp only [int, hb, hb', hlt2, hlt3, encL, hc, e1, Int.natCast_nonneg, am, simprocAttr, tys]
        exact ⟨by kernel_rfl, ⟨i + 1, by omega, by rw [List.take_succ_eq_append_getElem hlt, List.take_succ_eq_append_getElem hlt', heq, he]⟩, [], [], Ent.plain rfl rfl rfl (⟨.inr rfl, .inr rfl, .inr rfl, trivial⟩) rfl, by show x.length - (i + 1) < x.length - i; omega⟩
    · have hlt2 : ¬ ((i : Int) < x.length) := by omega
      have hxy : x = y := by rwa [List.take_of_length_le hge, List.take_of_length_le (by omega)] at heq
      have hd : decide (x = y) = true := decide_eq_true hxy
      simp only [int, hlt2, hd, bool, FinR, evRes, evRVs, evRV, am, simprocAttr, tys]
      exact ⟨_, [], [], rfl, Ent.plain rfl rfl rfl trivial rfl, rfl, rfl⟩
  · have hne : ¬ x = y := by intro h; rw [h] at hlen; simp at hlen
    have hd : decide (x = y) = false := decide_eq_false hne
    simp only [Try.f83, hlen, hd, bool, FinR, evRes, evRVs, evRV, am, simprocAttr, tys]
    exact ⟨_, [], [], rfl, Ent.plain rfl rfl rfl trivial rfl, rfl, rfl⟩
end Go.Proofs.Ytflpphgccjlkjaa

set_option linter.unusedSimpArgs false
set_option linter.unusedVariables false
namespace Go.Proofs.Ytflpphgccjlkjaa
open Go Go.AM

def eqA (x y : Ask) : Bool := x.1 == y.1 && (x.2.1 == y.2.1 && x.2.2.1 == y.2.2.1)
theorem eqA_iff (x y : Ask) : eqA x y = true ↔ x = y := by
  obtain ⟨a, b, c, ⟨⟩⟩ := x
  obtain ⟨d, e, f, ⟨⟩⟩ := y
  simp [eqA]
theorem eqA_cells (x y : Ask) : eqLits [.int .u8, .string, .string] (encA x) (encA y) = some (eqA x y) := by
  have e : ((x.1.toNat : Int) == (y.1.toNat : Int)) = (x.1 == y.1) := by
    rw [Bool.eq_iff_iff, beq_iff_eq, beq_iff_eq]
    constructor
    · intro h; apply UInt8.toNat_inj.1; omega
    · intro h; rw [h]
  simp only [encA, eqLits, eqK, bl_toList, e, if_true, Bool.and_true, eqA]

theorem same7 (x y : List Ask) (hx : x.length ≤ 9223372036854775807) (hy : y.length ≤ 9223372036854775807) : AFun Try.prog 84 [.d (.sl 3 (x.map encA)), .d (.sl 3 (y.map encA))] [] (bool (decide (x = y))) [] := by
  refine AFun.of_walk hP Try.func84 rfl rfl rfl (by simp) rfl ?_
  rcases hlen : (((x.length : Nat) : Int) != (y.length : Int)) with _ | _
  · have hle : x.length = y.length := by simp at hlen; omega
    simp only [Try.f84, hlen, am, simprocAttr, tys]
    refine ALoopW.intro 26 0 (ι := { i : Nat // i ≤ x.length ∧ x.take i = y.take i }) (fun i => [(0, .d (.sl 3 (x.map encA))), (1, .d (.sl 3 (y.map encA))), (5, int i.1)]) (fun _ => []) (fun i => x.length - i.1) ⟨0, by omega, by simp⟩ [] [] ?_ (fun ⟨i, hi, heq⟩ => ?_)
    · exact Ent.plain rfl rfl rfl (⟨.inr rfl, .inr rfl, .inr rfl, trivial⟩) rfl
    rcases Nat.lt_or_ge i x.length with hlt | hge
    · have hlt' : i < y.length := by omega
      have hb : x[i]? = some x[i] := List.getElem?_eq_getElem hlt
      have hb' : y[i]? = some y[i] := List.getElem?_eq_getElem hlt'
      have hlt2 : ((i : Int) < x.length) := by omega
      have hlt3 : ((i : Int) < y.length) := by omega
      have e1 : IntKind.i64.wrap ((i : Int) + 1) = ((i + 1 : Nat) : Int) := by rw [IntWalk.i64_in _ (by omega)]; simp
      have hc := eqA_cells x[i] y[i]
      rcases hq : eqA x[i] y[i] with _ | _
      · rw [hq] at hc
        have hne : ¬ x = y := by
          intro h
          have : x[i] = y[i] := by simp only [h]
          rw [(eqA_iff _ _).2 this] at hq; cases hq
        have hd : decide (x = y) = false := decide_eq_false hne
        simp only [encA] at hc
        simp only [int, hb, hb', hlt2, hlt3, encA, hc, hd, bool, Int.natCast_nonneg, FinR, evRes, evRVs, evRV, am, simprocAttr, tys]
        exact ⟨by kernel_rfl, ⟨_, [], [], rfl, Ent.plain rfl rfl rfl trivial rfl, rfl, rfl⟩⟩
      · rw [hq] at hc
        have he := (eqA_iff _ _).1 hq
        simp only [encA] at hc
        simp only [int, hb, hb', hlt2, hlt3, encA, hc, e1, Int.natCast_nonneg, am, simprocAttr, tys]
        exact ⟨by kernel_rfl, ⟨i + 1, by omega, by rw [List.take_succ_eq_append_getElem hlt, List.take_succ_eq_append_getElem hlt', heq, he]⟩, [], [], Ent.plain rfl rfl rfl (⟨.inr rfl, .inr rfl, .inr rfl, trivial⟩) rfl, by show x.length - (i + 1) < x.length - i; omega⟩
    · have hlt2 : ¬ ((i : Int) < x.length) := by omega
      have hxy : x = y := by rwa [List.take_of_length_le hge, List.take_of_length_le (by omega)] at heq
      have hd : decide (x = y) = true := decide_eq_true hxy
      simp only [int, hlt2, hd, bool, FinR, evRes, evRVs, evRV, am, simprocAttr, tys]
      exact ⟨_, [], [], rfl, Ent.plain rfl rfl rfl trivial rfl, rfl, rfl⟩
  · have hne : ¬ x = y := by intro h; rw [h] at hlen; simp at hlen
    have hd : decide (x = y) = false := decide_eq_false hne
    simp only [Try.f84, hlen, hd, bool, FinR, evRes, evRVs, evRV, am, simprocAttr, tys]
    exact ⟨_, [], [], rfl, Ent.plain rfl rfl rfl trivial rfl, rfl, rfl⟩
end Go.Proofs.Ytflpphgccjlkjaa

set_option linter.unusedSimpArgs false
set_option linter.unusedVariables false
namespace Go.Proofs.Ytflpphgccjlkjaa
open Go Go.AM

theorem equalL (x y : List Lab) (hx : x.length ≤ 9223372036854775807) (hy : y.length ≤ 9223372036854775807) : AFun Try.prog 71 [.d (.sl 2 (x.map encL)), .d (.sl 2 (y.map encL))] [] (bool (decide (x = y))) [] := by
  refine AFun.of_walk hP Try.func71 rfl rfl rfl (by simp) rfl ?_
  rcases hlen : (((x.length : Nat) : Int) != (y.length : Int)) with _ | _
  · have hle : x.length = y.length := by simp at hlen; omega
    simp only [Try.f71, hlen, am, simprocAttr, tys]
    refine ALoopW.intro 26 0 (ι := { i : Nat // i ≤ x.length ∧ x.take i = y.take i }) (fun i => [(0, .d (.sl 2 (x.map encL))), (1, .d (.sl 2 (y.map encL))), (12, int x.length), (13, int i.1)]) (fun _ => []) (fun i => x.length - i.1) ⟨0, by omega, by simp⟩ [] [] ?_ (fun ⟨i, hi, heq⟩ => ?_)
    · exact Ent.plain rfl rfl rfl (⟨.inr rfl, .inr rfl, .inr rfl, .inr rfl, trivial⟩) rfl
    rcases Nat.lt_or_ge i x.length with hlt | hge
    · have hlt' : i < y.length := by omega
      have hb : x[i]? = some x[i] := List.getElem?_eq_getElem hlt
      have hb' : y[i]? = some y[i] := List.getElem?_eq_getElem hlt'
      have hlt2 : ((i : Int) < x.length) := by omega
      have hlt3 : ((i : Int) < y.length) := by omega
      have e1 : IntKind.i64.wrap ((i : Int) + 1) = ((i + 1 : Nat) : Int) := by rw [IntWalk.i64_in _ (by omega)]; simp
      have hc := eqLb_cells x[i] y[i]
      rcases hq : eqLb x[i] y[i] with _ | _
      · rw [hq] at hc
        have hne : ¬ x = y := by
          intro h
          have : x[i] = y[i] := by simp only [h]
          rw [(eqLb_iff _ _).2 this] at hq; cases hq
        have hd : decide (x = y) = false := decide_eq_false hne
        simp only [encL] at hc
        simp only [int, hb, hb', hlt2, hlt3, encL, hc, hd, bool, Int.natCast_nonneg, FinR, evRes, evRVs, evRV, am, simprocAttr, tys]
        exact ⟨by kernel_rfl, ⟨_, [], [], rfl, Ent.plain rfl rfl rfl trivial rfl, rfl, rfl⟩⟩
      · rw [hq] at hc
        have he := (eqLb_iff _ _).1 hq
        simp only [encL] at hc
        simp only [int, hb, hb', hlt2, hlt3, encL, hc, e1, Int.natCast_nonneg, am, simprocAttr, tys]
        exact ⟨by kernel_rfl, ⟨i + 1, by omega, by rw [List.take_succ_eq_append_getElem hlt, List.take_succ_eq_append_getElem hlt', heq, he]⟩, [], [], Ent.plain rfl rfl rfl (⟨.inr rfl, .inr rfl, .inr rfl, .inr rfl, trivial⟩) rfl, by show x.length - (i + 1) < x.length - i; omega⟩
    · have hlt2 : ¬ ((i : Int) < x.length) := by omega
      have hxy : x = y := by rwa [List.take_of_length_le hge, List.take_of_length_le (by omega)] at heq
      have hd : decide (x = y) = true := decide_eq_true hxy
      simp only [int, hlt2, hd, bool, FinR, evRes, evRVs, evRV, am, simprocAttr, tys]
      exact ⟨_, [], [], rfl, Ent.plain rfl rfl rfl trivial rfl, rfl, rfl⟩
  · have hne : ¬ x = y := by intro h; rw [h] at hlen; simp at hlen
    have hd : decide (x = y) = false := decide_eq_false hne
    simp only [Try.f71, hlen, hd, bool, FinR, evRes, evRVs, evRV, am, simprocAttr, tys]
    exact ⟨_, [], [], rfl, Ent.plain rfl rfl rfl trivial rfl, rfl, rfl⟩

theorem equalA (x y : List Ask) (hx : x.length ≤ 9223372036854775807) (hy : y.length ≤ 9223372036854775807) : AFun Try.prog 72 [.d (.sl 3 (x.map encA)), .d (.sl 3 (y.map encA))] [] (bool (decide (x = y))) [] := by
  refine AFun.of_walk hP Try.func72 rfl rfl rfl (by simp) rfl ?_
  rcases hlen : (((x.length : Nat) : Int) != (y.length : Int)) with _ | _
  · have hle : x.length = y.length := by simp at hlen; omega
    simp only [Try.f72, hlen, am, simprocAttr, tys]
    refine ALoopW.intro 26 0 (ι := { i : Nat // i ≤ x.length ∧ x.take i = y.take i }) (fun i => [(0, .d (.sl 3 (x.map encA))), (1, .d (.sl 3 (y.map encA))), (12, int x.length), (13, int i.1)]) (fun _ => []) (fun i => x.length - i.1) ⟨0, by omega, by simp⟩ [] [] ?_ (fun ⟨i, hi, heq⟩ => ?_)
    · exact Ent.plain rfl rfl rfl (⟨.inr rfl, .inr rfl, .inr rfl, .inr rfl, trivial⟩) rfl
    rcases Nat.lt_or_ge i x.length with hlt | hge
    · have hlt' : i < y.length := by omega
      have hb : x[i]? = some x[i] := List.getElem?_eq_getElem hlt
      have hb' : y[i]? = some y[i] := List.getElem?_eq_getElem hlt'
      have hlt2 : ((i : Int) < x.length) := by omega
      have hlt3 : ((i : Int) < y.length) := by omega
      have e1 : IntKind.i64.wrap ((i : Int) + 1) = ((i + 1 : Nat) : Int) := by rw [IntWalk.i64_in _ (by omega)]; simp
      have hc := eqA_cells x[i] y[i]
      rcases hq : eqA x[i] y[i] with _ | _
      · rw [hq] at hc
        have hne : ¬ x = y := by
          intro h
          have : x[i] = y[i] := by simp only [h]
          rw [(eqA_iff _ _).2 this] at hq; cases hq
        have hd : decide (x = y) = false := decide_eq_false hne
        simp only [encA] at hc
        simp only [int, hb, hb', hlt2, hlt3, encA, hc, hd, bool, Int.natCast_nonneg, FinR, evRes, evRVs, evRV, am, simprocAttr, tys]
        exact ⟨by kernel_rfl, ⟨_, [], [], rfl, Ent.plain rfl rfl rfl trivial rfl, rfl, rfl⟩⟩
      · rw [hq] at hc
        have he := (eqA_iff _ _).1 hq
        simp only [encA] at hc
        simp only [int, hb, hb', hlt2, hlt3, encA, hc, e1, Int.natCast_nonneg, am, simprocAttr, tys]
        exact ⟨by kernel_rfl, ⟨i + 1, by omega, by rw [List.take_succ_eq_append_getElem hlt, List.take_succ_eq_append_getElem hlt', heq, he]⟩, [], [], Ent.plain rfl rfl rfl (⟨.inr rfl, .inr rfl, .inr rfl, .inr rfl, trivial⟩) rfl, by show x.length - (i + 1) < x.length - i; omega⟩
    · have hlt2 : ¬ ((i : Int) < x.length) := by omega
      have hxy : x = y := by rwa [List.take_of_length_le hge, List.take_of_length_le (by omega)] at heq
      have hd : decide (x = y) = true := decide_eq_true hxy
      simp only [int, hlt2, hd, bool, FinR, evRes, evRVs, evRV, am, simprocAttr, tys]
      exact ⟨_, [], [], rfl, Ent.plain rfl rfl rfl trivial rfl, rfl, rfl⟩
  · have hne : ¬ x = y := by intro h; rw [h] at hlen; simp at hlen
    have hd : decide (x = y) = false := decide_eq_false hne
    simp only [Try.f72, hlen, hd, bool, FinR, evRes, evRVs, evRV, am, simprocAttr, tys]
    exact ⟨_, [], [], rfl, Ent.plain rfl rfl rfl trivial rfl, rfl, rfl⟩

end Go.Proofs.Ytflpphgccjlkjaa

set_option linter.unusedSimpArgs false
set_option linter.unusedVariables false
namespace Go.Proofs.Ytflpphgccjlkjaa
open Go Go.AM

/-! ## something that is done -/
abbrev Pt := Int × Int × Unit
abbrev OpT := UInt8 × List Lab × Pt × List Ask × Unit
def encO (o : OpT) : List DV := [.lit (.int .u8 o.1.toNat), .sl 2 (o.2.1.map encL), .lit (.int .i64 o.2.2.1.1), .lit (.int .i64 o.2.2.1.2.1), .sl 3 (o.2.2.2.1.map encA)]
def ptB (o p : OpT) : Bool := o.2.2.1.1 == p.2.2.1.1 && o.2.2.1.2.1 == p.2.2.1.2.1
def sameO (o p : OpT) : Bool := o.1 == p.1 && (ptB o p && (decide (o.2.1 = p.2.1) && decide (o.2.2.2.1 = p.2.2.2.1)))
theorem pt_cells (o p : OpT) : eqLits [.int .i64, .int .i64] [.lit (.int .i64 o.2.2.1.1), .lit (.int .i64 o.2.2.1.2.1)] [.lit (.int .i64 p.2.2.1.1), .lit (.int .i64 p.2.2.1.2.1)] = some (ptB o p) := by
  simp only [eqLits, eqK, if_true, Bool.and_true, ptB]

theorem opSame (o p : OpT) (h1 : o.2.1.length ≤ 9223372036854775807) (h2 : p.2.1.length ≤ 9223372036854775807) (h3 : o.2.2.2.1.length ≤ 9223372036854775807) (h4 : p.2.2.2.1.length ≤ 9223372036854775807) :
    AFun Try.prog 47 [.d (.agg (encO o)), .d (.agg (encO p))] [] (bool (sameO o p)) [] := by
  refine AFun.of_walk hP Try.func47 rfl rfl rfl (by simp) rfl ?_
  have e0 : ((o.1.toNat : Int) == (p.1.toNat : Int)) = (o.1 == p.1) := by
    rw [Bool.eq_iff_iff, beq_iff_eq, beq_iff_eq]
    constructor
    · intro h; apply UInt8.toNat_inj.1; omega
    · intro h; rw [h]
  have hc := pt_cells o p
  unfold sameO
  rcases q0 : o.1 == p.1 with _ | _
  · simp only [Try.f47, encO, e0, q0, bool, Bool.false_and, FinR, evRes, evRVs, evRV, am, simprocAttr, tys]
    exact ⟨_, [], [], rfl, Ent.plain rfl rfl rfl trivial rfl, rfl, rfl⟩
  · rcases q1 : ptB o p with _ | _
    · rw [q1] at hc
      simp only [Try.f47, encO, e0, q0, hc, bool, Bool.false_and, Bool.true_and, FinR, evRes, evRVs, evRV, am, simprocAttr, tys]
      exact ⟨_, [], [], rfl, Ent.plain rfl rfl rfl trivial rfl, rfl, rfl⟩
    · rw [q1] at hc
      simp only [Try.f47, encO, e0, q0, hc, bool, Bool.true_and, am, simprocAttr, tys]
      refine ACall.of (equalL o.2.1 p.2.1 h1 h2) [] [] rfl (by simp) (by simp) (by simp) (by repeat' (first | exact trivial | exact .inl rfl | exact .inr rfl | exact .inr ⟨rfl, rfl, rfl, by simp; done⟩ | exact .inr ⟨rfl, by simp; done⟩ | exact .inr ⟨rfl, rfl, by simp; done⟩ | apply And.intro)) (by repeat' (first | exact trivial | rfl | exact (tkC_ren.1 _ _).symm | (simp; done) | apply And.intro)) (by first | exact .inl rfl | (refine .inr ⟨trivial, ?_⟩; first | (intro row h; rcases List.mem_singleton.1 h with rfl; exact nvB _) | (intro row h; cases h; done) | (simp; done)) | (refine .inr ⟨by simp [nvP, nvP.nvPs, nvD, nilS, errno], ?_⟩; first | (intro row h; rcases List.mem_singleton.1 h with rfl; exact nvB _) | (intro row h; cases h; done) | (simp [nvRow, nvD, nvP]; done))) ?_
      rcases q2 : decide (o.2.1 = p.2.1) with _ | _
      · simp only [bool, Bool.false_and, FinR, evRes, evRVs, evRV, am, simprocAttr, tys]
        exact ⟨_, [], [], rfl, Ent.plain rfl rfl rfl trivial rfl, rfl, rfl⟩
      · simp only [bool, Bool.true_and, am, simprocAttr, tys]
        refine ACall.of (equalA o.2.2.2.1 p.2.2.2.1 h3 h4) [] [] rfl (by simp) (by simp) (by simp) (by repeat' (first | exact trivial | exact .inl rfl | exact .inr rfl | exact .inr ⟨rfl, rfl, rfl, by simp; done⟩ | exact .inr ⟨rfl, by simp; done⟩ | exact .inr ⟨rfl, rfl, by simp; done⟩ | apply And.intro)) (by repeat' (first | exact trivial | rfl | exact (tkC_ren.1 _ _).symm | (simp; done) | apply And.intro)) (by first | exact .inl rfl | (refine .inr ⟨trivial, ?_⟩; first | (intro row h; rcases List.mem_singleton.1 h with rfl; exact nvB _) | (intro row h; cases h; done) | (simp; done)) | (refine .inr ⟨by simp [nvP, nvP.nvPs, nvD, nilS, errno], ?_⟩; first | (intro row h; rcases List.mem_singleton.1 h with rfl; exact nvB _) | (intro row h; cases h; done) | (simp [nvRow, nvD, nvP]; done))) ?_
        simp only [bool, FinR, evRes, evRVs, evRV, am, simprocAttr, tys]
        exact ⟨_, [], [], rfl, Ent.plain rfl rfl rfl trivial rfl, rfl, rfl⟩

theorem refOSame (o p : OpT) (h1 : o.2.1.length ≤ 9223372036854775807) (h2 : p.2.1.length ≤ 9223372036854775807) (h3 : o.2.2.2.1.length ≤ 9223372036854775807) (h4 : p.2.2.2.1.length ≤ 9223372036854775807) :
    AFun Try.prog 63 [.d (.agg (encO o)), .d (.agg (encO p))] [] (bool (sameO o p)) [] := by
  refine AFun.of_walk hP Try.func63 rfl rfl rfl (by simp) rfl ?_
  have e0 : ((o.1.toNat : Int) == (p.1.toNat : Int)) = (o.1 == p.1) := by
    rw [Bool.eq_iff_iff, beq_iff_eq, beq_iff_eq]
    constructor
    · intro h; apply UInt8.toNat_inj.1; omega
    · intro h; rw [h]
  have hc := pt_cells o p
  unfold sameO
  rcases q0 : o.1 == p.1 with _ | _
  · simp only [Try.f63, encO, e0, q0, bool, Bool.false_and, FinR, evRes, evRVs, evRV, am, simprocAttr, tys]
    exact ⟨_, [], [], rfl, Ent.plain rfl rfl rfl trivial rfl, rfl, rfl⟩
  · rcases q1 : ptB o p with _ | _
    · rw [q1] at hc
      simp only [Try.f63, encO, e0, q0, hc, bool, Bool.false_and, Bool.true_and, FinR, evRes, evRVs, evRV, am, simprocAttr, tys]
      exact ⟨_, [], [], rfl, Ent.plain rfl rfl rfl trivial rfl, rfl, rfl⟩
    · rw [q1] at hc
      simp only [Try.f63, encO, e0, q0, hc, bool, Bool.true_and, am, simprocAttr, tys]
      refine ACall.of (same5 o.2.1 p.2.1 h1 h2) [] [] rfl (by simp) (by simp) (by simp) (by repeat' (first | exact trivial | exact .inl rfl | exact .inr rfl | exact .inr ⟨rfl, rfl, rfl, by simp; done⟩ | exact .inr ⟨rfl, by simp; done⟩ | exact .inr ⟨rfl, rfl, by simp; done⟩ | apply And.intro)) (by repeat' (first | exact trivial | rfl | exact (tkC_ren.1 _ _).symm | (simp; done) | apply And.intro)) (by first | exact .inl rfl | (refine .inr ⟨trivial, ?_⟩; first | (intro row h; rcases List.mem_singleton.1 h with rfl; exact nvB _) | (intro row h; cases h; done) | (simp; done)) | (refine .inr ⟨by simp [nvP, nvP.nvPs, nvD, nilS, errno], ?_⟩; first | (intro row h; rcases List.mem_singleton.1 h with rfl; exact nvB _) | (intro row h; cases h; done) | (simp [nvRow, nvD, nvP]; done))) ?_
      rcases q2 : decide (o.2.1 = p.2.1) with _ | _
      · simp only [bool, Bool.false_and, FinR, evRes, evRVs, evRV, am, simprocAttr, tys]
        exact ⟨_, [], [], rfl, Ent.plain rfl rfl rfl trivial rfl, rfl, rfl⟩
      · simp only [bool, Bool.true_and, am, simprocAttr, tys]
        refine ACall.of (same7 o.2.2.2.1 p.2.2.2.1 h3 h4) [] [] rfl (by simp) (by simp) (by simp) (by repeat' (first | exact trivial | exact .inl rfl | exact .inr rfl | exact .inr ⟨rfl, rfl, rfl, by simp; done⟩ | exact .inr ⟨rfl, by simp; done⟩ | exact .inr ⟨rfl, rfl, by simp; done⟩ | apply And.intro)) (by repeat' (first | exact trivial | rfl | exact (tkC_ren.1 _ _).symm | (simp; done) | apply And.intro)) (by first | exact .inl rfl | (refine .inr ⟨trivial, ?_⟩; first | (intro row h; rcases List.mem_singleton.1 h with rfl; exact nvB _) | (intro row h; cases h; done) | (simp; done)) | (refine .inr ⟨by simp [nvP, nvP.nvPs, nvD, nilS, errno], ?_⟩; first | (intro row h; rcases List.mem_singleton.1 h with rfl; exact nvB _) | (intro row h; cases h; done) | (simp [nvRow, nvD, nvP]; done))) ?_
        simp only [bool, FinR, evRes, evRVs, evRV, am, simprocAttr, tys]
        exact ⟨_, [], [], rfl, Ent.plain rfl rfl rfl trivial rfl, rfl, rfl⟩
end Go.Proofs.Ytflpphgccjlkjaa

set_option linter.unusedSimpArgs false
set_option linter.unusedVariables false
namespace Go.Proofs.Ytflpphgccjlkjaa
open Go Go.AM
end Go.Proofs.Ytflpphgccjlkjaa

set_option linter.unusedSimpArgs false
set_option linter.unusedVariables false
namespace Go.Proofs.Ytflpphgccjlkjaa
open Go Go.AM

/-! ## names -/
theorem decode_ascii (l : List UInt8) (i : Nat) (h : i < l.length) (hb : l[i].toNat < 128) : Utf8.decode ⟨⟨l⟩⟩ i = (l[i].toNat, 1) := by
  have e : (⟨⟨l⟩⟩ : ByteArray).get! (i + 0) = l[i] := by
    show (⟨l⟩ : Array UInt8).get!Internal i = _
    simp [Array.get!Internal, Array.getD, h]
  unfold Utf8.decode
  simp only [e]
  rw [if_pos hb]

theorem decode_high (l : List UInt8) (i : Nat) (h : i < l.length) (hb : 128 ≤ l[i].toNat) : 128 ≤ (Utf8.decode ⟨⟨l⟩⟩ i).1 := by
  have e : (⟨⟨l⟩⟩ : ByteArray).get! (i + 0) = l[i] := by
    show (⟨l⟩ : Array UInt8).get!Internal i = _
    simp [Array.get!Internal, Array.getD, h]
  have hr : 128 ≤ Utf8.runeError := by decide
  unfold Utf8.decode
  simp only [e]
  rw [if_neg (by omega)]
  repeat' split
  all_goals first | exact hr | (simp only [ge_iff_le] at *; first | omega | (rename_i hc; simp only [Bool.and_eq_true, decide_eq_true_eq] at hc; omega))

/-- a text any of whose bytes is one for which p; all above 127 are -/
theorem indexFunc (s : List UInt8) (p : Int → Bool) (f : Nat) (hl : s.length ≤ 9223372036854775807) (hf : isFn Try.prog f = true) (hp : ∀ c : Int, 128 ≤ c → p c = true)
    (hc : ∀ c : Int, 0 ≤ c → AFun Try.prog f [.d (.lit (.int .i32 c))] [] (bool (p c)) []) :
    ∃ k : Int, (decide (0 ≤ k) = s.any fun b => p b.toNat) ∧ AFun Try.prog 106 [str s, .clo (.func f) [] [], bool true] [] (int k) [] := by
  by_cases hany : ∃ i, ∃ h : i < s.length, p s[i].toNat = true ∧ ∀ j, (hj : j < i) → p (s[j]'(by omega)).toNat = false
  · obtain ⟨i0, h0, h1, h2⟩ := hany
    refine ⟨i0, ?_, ?_⟩
    · rw [show decide ((0 : Int) ≤ (i0 : Int)) = true from decide_eq_true (by omega), eq_comm, List.any_eq_true]
      exact ⟨s[i0], List.getElem_mem h0, h1⟩
    refine AFun.of_walk hP Try.func106 rfl rfl rfl (by simp) rfl ?_
    simp only [Try.f106, str, bool, am, simprocAttr, tys]
    refine ALoopW.intro 21 0 (ι := { i : Nat // i ≤ i0 }) (fun i => [(1, .clo (.func f) [] []), (2, .d (.lit (.bool true))), (10, .ptr 0 0)]) (fun i => [.iter ⟨⟨s⟩⟩ i.1]) (fun i => s.length - i.1) ⟨0, by omega⟩ [] [0] ?_ (fun ⟨i, hi⟩ => ?_)
    · exact ⟨rfl, rfl, by simp, (fun i hi => absurd hi (Nat.not_lt_zero _)), ⟨.inr rfl, .inr rfl, .inr rfl, trivial⟩, ⟨.inr ⟨by decide, rfl⟩, trivial⟩, rfl, by decide, rfl, (by first | rfl | simp [scRow, tkC_scs])⟩
    have hlt : i < s.length := by omega
    simp only [bl_size, hlt, hf, am, simprocAttr, tys]
    by_cases hie : i = i0
    · subst hie
      have hd : 0 ≤ ((Utf8.decode ⟨⟨s⟩⟩ i).1 : Int) := Int.natCast_nonneg _
      have hpd : p ((Utf8.decode ⟨⟨s⟩⟩ i).1 : Int) = true := by
        rcases Nat.lt_or_ge s[i].toNat 128 with hb | hb
        · rw [decode_ascii s i hlt hb]; exact h1
        · have := decode_high s i hlt hb
          exact hp _ (by omega)
      have hcc := hc _ hd
      rw [hpd] at hcc
      refine ACall.of (hcc) [] [] rfl (by simp) (by simp) (by simp) (by repeat' (first | exact trivial | exact .inl rfl | exact .inr rfl | exact .inr ⟨rfl, rfl, rfl, by simp; done⟩ | exact .inr ⟨rfl, by simp; done⟩ | exact .inr ⟨rfl, rfl, by simp; done⟩ | apply And.intro)) (by repeat' (first | exact trivial | rfl | exact (tkC_ren.1 _ _).symm | (simp; done) | apply And.intro)) (by first | exact .inl rfl | (refine .inr ⟨trivial, ?_⟩; first | (intro row h; rcases List.mem_singleton.1 h with rfl; exact nvB _) | (intro row h; cases h; done) | (simp; done)) | (refine .inr ⟨by simp [nvP, nvP.nvPs, nvD, nilS, errno], ?_⟩; first | (intro row h; rcases List.mem_singleton.1 h with rfl; exact nvB _) | (intro row h; cases h; done) | (simp [nvRow, nvD, nvP]; done))) ?_
      simp only [bool, int, FinR, evRes, evRVs, evRV, am, simprocAttr, tys]
      exact ⟨_, [], [], rfl, Ent.plain rfl rfl rfl trivial rfl, rfl, rfl⟩
    · have hpf := h2 i (by omega)
      have hb : s[i].toNat < 128 := by
        rcases Nat.lt_or_ge s[i].toNat 128 with hb | hb
        · exact hb
        · rw [hp _ (by omega)] at hpf; cases hpf
      have hcc := hc (s[i].toNat : Int) (Int.natCast_nonneg _)
      rw [hpf] at hcc
      simp only [decode_ascii s i hlt hb, am, simprocAttr, tys]
      refine ACall.of (hcc) [] [] rfl (by simp) (by simp) (by simp) (by repeat' (first | exact trivial | exact .inl rfl | exact .inr rfl | exact .inr ⟨rfl, rfl, rfl, by simp; done⟩ | exact .inr ⟨rfl, by simp; done⟩ | exact .inr ⟨rfl, rfl, by simp; done⟩ | apply And.intro)) (by repeat' (first | exact trivial | rfl | exact (tkC_ren.1 _ _).symm | (simp; done) | apply And.intro)) (by first | exact .inl rfl | (refine .inr ⟨trivial, ?_⟩; first | (intro row h; rcases List.mem_singleton.1 h with rfl; exact nvB _) | (intro row h; cases h; done) | (simp; done)) | (refine .inr ⟨by simp [nvP, nvP.nvPs, nvD, nilS, errno], ?_⟩; first | (intro row h; rcases List.mem_singleton.1 h with rfl; exact nvB _) | (intro row h; cases h; done) | (simp [nvRow, nvD, nvP]; done))) ?_
      simp only [bool, am, simprocAttr, tys]
      exact ⟨⟨i + 1, by omega⟩, [], [0], ⟨rfl, rfl, by simp, (fun i hi => absurd hi (Nat.not_lt_zero _)), ⟨.inr rfl, .inr rfl, .inr rfl, trivial⟩, ⟨.inr ⟨by decide, rfl⟩, trivial⟩, rfl, by decide, rfl, (by first | rfl | simp [scRow, tkC_scs])⟩, by show s.length - (i + 1) < s.length - i; omega⟩
  · have hall : ∀ i, (h : i < s.length) → p s[i].toNat = false := by
      intro i
      induction i using Nat.strongRecOn with
      | _ i ih =>
        intro h
        rcases hpi : p s[i].toNat with _ | _
        · rfl
        · exact absurd ⟨i, h, hpi, fun j hj => ih j hj (by omega)⟩ hany
    refine ⟨-1, ?_, ?_⟩
    · have : (s.any fun b => p b.toNat) = false := by
        rw [List.any_eq_false]
        intro x hx
        obtain ⟨i, h, rfl⟩ := List.getElem_of_mem hx
        simp [hall i h]
      rw [this]; rfl
    refine AFun.of_walk hP Try.func106 rfl rfl rfl (by simp) rfl ?_
    simp only [Try.f106, str, bool, am, simprocAttr, tys]
    refine ALoopW.intro 21 0 (ι := { i : Nat // i ≤ s.length }) (fun i => [(1, .clo (.func f) [] []), (2, .d (.lit (.bool true))), (10, .ptr 0 0)]) (fun i => [.iter ⟨⟨s⟩⟩ i.1]) (fun i => s.length - i.1) ⟨0, by omega⟩ [] [0] ?_ (fun ⟨i, hi⟩ => ?_)
    · exact ⟨rfl, rfl, by simp, (fun i hi => absurd hi (Nat.not_lt_zero _)), ⟨.inr rfl, .inr rfl, .inr rfl, trivial⟩, ⟨.inr ⟨by decide, rfl⟩, trivial⟩, rfl, by decide, rfl, (by first | rfl | simp [scRow, tkC_scs])⟩
    rcases Nat.lt_or_ge i s.length with hlt | hge
    · have hpf := hall i hlt
      have hb : s[i].toNat < 128 := by
        rcases Nat.lt_or_ge s[i].toNat 128 with hb | hb
        · exact hb
        · rw [hp _ (by omega)] at hpf; cases hpf
      have hcc := hc (s[i].toNat : Int) (Int.natCast_nonneg _)
      rw [hpf] at hcc
      simp only [bl_size, hlt, hf, decode_ascii s i hlt hb, am, simprocAttr, tys]
      refine ACall.of (hcc) [] [] rfl (by simp) (by simp) (by simp) (by repeat' (first | exact trivial | exact .inl rfl | exact .inr rfl | exact .inr ⟨rfl, rfl, rfl, by simp; done⟩ | exact .inr ⟨rfl, by simp; done⟩ | exact .inr ⟨rfl, rfl, by simp; done⟩ | apply And.intro)) (by repeat' (first | exact trivial | rfl | exact (tkC_ren.1 _ _).symm | (simp; done) | apply And.intro)) (by first | exact .inl rfl | (refine .inr ⟨trivial, ?_⟩; first | (intro row h; rcases List.mem_singleton.1 h with rfl; exact nvB _) | (intro row h; cases h; done) | (simp; done)) | (refine .inr ⟨by simp [nvP, nvP.nvPs, nvD, nilS, errno], ?_⟩; first | (intro row h; rcases List.mem_singleton.1 h with rfl; exact nvB _) | (intro row h; cases h; done) | (simp [nvRow, nvD, nvP]; done))) ?_
      simp only [bool, am, simprocAttr, tys]
      exact ⟨⟨i + 1, by omega⟩, [], [0], ⟨rfl, rfl, by simp, (fun i hi => absurd hi (Nat.not_lt_zero _)), ⟨.inr rfl, .inr rfl, .inr rfl, trivial⟩, ⟨.inr ⟨by decide, rfl⟩, trivial⟩, rfl, by decide, rfl, (by first | rfl | simp [scRow, tkC_scs])⟩, by show s.length - (i + 1) < s.length - i; omega⟩
    · have hlt : ¬ i < s.length := by omega
      simp only [bl_size, hlt, int, FinR, evRes, evRVs, evRV, am, simprocAttr, tys]
      exact ⟨_, [], [], rfl, Ent.plain rfl rfl rfl trivial rfl, rfl, rfl⟩

theorem containsFunc (s : List UInt8) (p : Int → Bool) (f : Nat) (hl : s.length ≤ 9223372036854775807) (hf : isFn Try.prog f = true) (hp : ∀ c : Int, 128 ≤ c → p c = true)
    (hc : ∀ c : Int, 0 ≤ c → AFun Try.prog f [.d (.lit (.int .i32 c))] [] (bool (p c)) []) :
    AFun Try.prog 101 [str s, .clo (.func f) [] []] [] (bool (s.any fun b => p b.toNat)) [] := by
  obtain ⟨k, hk, h1⟩ := indexFunc s p f hl hf hp hc
  have h2 : AFun Try.prog 105 [str s, .clo (.func f) [] []] [] (int k) [] := by
    refine AFun.of_walk hP Try.func105 rfl rfl rfl (by simp) rfl ?_
    simp only [Try.f105, am, simprocAttr, tys]
    refine ACall.of (h1) [] [] rfl (by simp) (by simp) (by simp) (by repeat' (first | exact trivial | exact .inl rfl | exact .inr rfl | exact .inr ⟨rfl, rfl, rfl, by simp; done⟩ | exact .inr ⟨rfl, by simp; done⟩ | exact .inr ⟨rfl, rfl, by simp; done⟩ | apply And.intro)) (by repeat' (first | exact trivial | rfl | exact (tkC_ren.1 _ _).symm | (simp; done) | apply And.intro)) (by first | exact .inl rfl | (refine .inr ⟨trivial, ?_⟩; first | (intro row h; rcases List.mem_singleton.1 h with rfl; exact nvB _) | (intro row h; cases h; done) | (simp; done)) | (refine .inr ⟨by simp [nvP, nvP.nvPs, nvD, nilS, errno], ?_⟩; first | (intro row h; rcases List.mem_singleton.1 h with rfl; exact nvB _) | (intro row h; cases h; done) | (simp [nvRow, nvD, nvP]; done))) ?_
    simp only [int, FinR, evRes, evRVs, evRV, am, simprocAttr, tys]
    exact ⟨_, [], [], rfl, Ent.plain rfl rfl rfl trivial rfl, rfl, rfl⟩
  refine AFun.of_walk hP Try.func101 rfl rfl rfl (by simp) rfl ?_
  simp only [Try.f101, am, simprocAttr, tys]
  refine ACall.of (h2) [] [] rfl (by simp) (by simp) (by simp) (by repeat' (first | exact trivial | exact .inl rfl | exact .inr rfl | exact .inr ⟨rfl, rfl, rfl, by simp; done⟩ | exact .inr ⟨rfl, by simp; done⟩ | exact .inr ⟨rfl, rfl, by simp; done⟩ | apply And.intro)) (by repeat' (first | exact trivial | rfl | exact (tkC_ren.1 _ _).symm | (simp; done) | apply And.intro)) (by first | exact .inl rfl | (refine .inr ⟨trivial, ?_⟩; first | (intro row h; rcases List.mem_singleton.1 h with rfl; exact nvB _) | (intro row h; cases h; done) | (simp; done)) | (refine .inr ⟨by simp [nvP, nvP.nvPs, nvD, nilS, errno], ?_⟩; first | (intro row h; rcases List.mem_singleton.1 h with rfl; exact nvB _) | (intro row h; cases h; done) | (simp [nvRow, nvD, nvP]; done))) ?_
  simp only [int, hk, bool, FinR, evRes, evRVs, evRV, am, simprocAttr, tys]
  exact ⟨_, [], [], rfl, Ent.plain rfl rfl rfl trivial rfl, rfl, rfl⟩

def badR (c : Int) : Bool := (decide (c < 97) || decide (122 < c)) && (decide (c < 48) || decide (57 < c)) && c != 95
theorem badR_high (c : Int) (h : 128 ≤ c) : badR c = true := by
  unfold badR
  rw [show decide (122 < c) = true from decide_eq_true (by omega), show decide (57 < c) = true from decide_eq_true (by omega)]
  have : (c != 95) = true := by rw [bne_iff_ne]; omega
  rw [this]; simp
theorem name1 (c : Int) : AFun Try.prog 102 [.d (.lit (.int .i32 c))] [] (bool (badR c)) [] := by
  refine AFun.of_walk hP Try.func102 rfl rfl rfl (by simp) rfl ?_
  unfold badR
  rcases h1 : decide (c < 97) with _ | _ <;> rcases h2 : decide (122 < c) with _ | _ <;> rcases h3 : decide (c < 48) with _ | _ <;> rcases h4 : decide (57 < c) with _ | _ <;>
    (simp only [Try.f102, bool, h1, h2, h3, h4, FinR, evRes, evRVs, evRV, am, simprocAttr, tys]; exact ⟨_, [], [], rfl, Ent.plain rfl rfl rfl trivial rfl, rfl, rfl⟩)

/-- what may name a label -/
def letB (b : UInt8) : Bool := decide (97 ≤ b.toNat) && decide (b.toNat ≤ 122)
def nameOk (s : List UInt8) : Bool := decide (1 ≤ s.length) && decide (s.length ≤ 16) && letB (s.headD 0) && !(s.any fun b => badR b.toNat)

theorem within (s : List UInt8) (m : Int) (hl : s.length ≤ 9223372036854775807) : AFun Try.prog 93 [str s, int m] [] (bool (decide (1 ≤ s.length) && decide ((s.length : Int) ≤ m))) [] := by
  refine AFun.of_walk hP Try.func93 rfl rfl rfl (by simp) rfl ?_
  have e : decide (1 ≤ s.length) = decide ((1 : Int) ≤ s.length) := by rw [decide_eq_decide]; omega
  rw [e]
  rcases h1 : decide ((1 : Int) ≤ s.length) with _ | _ <;>
    (simp only [Try.f93, str, int, bool, bl_size, h1, FinR, evRes, evRVs, evRV, am, simprocAttr, tys]; exact ⟨_, [], [], rfl, Ent.plain rfl rfl rfl trivial rfl, rfl, rfl⟩)

theorem labelName (s : List UInt8) (hl : s.length ≤ 9223372036854775807) : AFun Try.prog 92 [str s] [] (bool (nameOk s)) [] := by
  refine AFun.of_walk hP Try.func92 rfl rfl rfl (by simp) rfl ?_
  have hw := within s 16 hl
  have e16 : decide ((s.length : Int) ≤ 16) = decide (s.length ≤ 16) := by rw [decide_eq_decide]; omega
  rw [e16] at hw
  simp only [Try.f92, str, am, simprocAttr, tys]
  refine ACall.of (hw) [] [] rfl (by simp) (by simp) (by simp) (by repeat' (first | exact trivial | exact .inl rfl | exact .inr rfl | exact .inr ⟨rfl, rfl, rfl, by simp; done⟩ | exact .inr ⟨rfl, by simp; done⟩ | exact .inr ⟨rfl, rfl, by simp; done⟩ | apply And.intro)) (by repeat' (first | exact trivial | rfl | exact (tkC_ren.1 _ _).symm | (simp; done) | apply And.intro)) (by first | exact .inl rfl | (refine .inr ⟨trivial, ?_⟩; first | (intro row h; rcases List.mem_singleton.1 h with rfl; exact nvB _) | (intro row h; cases h; done) | (simp; done)) | (refine .inr ⟨by simp [nvP, nvP.nvPs, nvD, nilS, errno], ?_⟩; first | (intro row h; rcases List.mem_singleton.1 h with rfl; exact nvB _) | (intro row h; cases h; done) | (simp [nvRow, nvD, nvP]; done))) ?_
  unfold nameOk
  rcases hwb : (decide (1 ≤ s.length) && decide (s.length ≤ 16)) with _ | _
  · simp only [bool, FinR, evRes, evRVs, evRV, am, simprocAttr, tys]
    exact ⟨_, [], [], rfl, Ent.plain rfl rfl rfl trivial rfl, rfl, rfl⟩
  · have h1 : 1 ≤ s.length := by simp at hwb; omega
    obtain ⟨b, t, rfl⟩ : ∃ b t, s = b :: t := by cases s with | nil => simp at h1 | cons b t => exact ⟨b, t, rfl⟩
    have hlI : ((0 : Int) < ((t.length + 1 : Nat) : Int)) := by omega
    have hlet : letB b = (!(decide ((b.toNat : Int) < 97) || decide ((122 : Int) < b.toNat))) := by
      unfold letB
      rw [Bool.eq_iff_iff]
      simp
      omega
    simp only [List.headD_cons, hlet]
    rcases g1 : decide ((b.toNat : Int) < 97) with _ | _
    · rcases g2 : decide ((122 : Int) < (b.toNat : Int)) with _ | _
      · simp only [bool, bl_size, g1, g2, hlI, am, simprocAttr, tys]
        refine ACall.of (containsFunc (b :: t) badR 102 hl (by kernel_rfl) badR_high (fun c _ => name1 c)) [] [] rfl (by simp) (by simp) (by simp) (by repeat' (first | exact trivial | exact .inl rfl | exact .inr rfl | exact .inr ⟨rfl, rfl, rfl, by simp; done⟩ | exact .inr ⟨rfl, by simp; done⟩ | exact .inr ⟨rfl, rfl, by simp; done⟩ | apply And.intro)) (by repeat' (first | exact trivial | rfl | exact (tkC_ren.1 _ _).symm | (simp; done) | apply And.intro)) (by first | exact .inl rfl | (refine .inr ⟨trivial, ?_⟩; first | (intro row h; rcases List.mem_singleton.1 h with rfl; exact nvB _) | (intro row h; cases h; done) | (simp; done)) | (refine .inr ⟨by simp [nvP, nvP.nvPs, nvD, nilS, errno], ?_⟩; first | (intro row h; rcases List.mem_singleton.1 h with rfl; exact nvB _) | (intro row h; cases h; done) | (simp [nvRow, nvD, nvP]; done))) ?_
        simp only [bool, FinR, evRes, evRVs, evRV, am, simprocAttr, tys]
        exact ⟨_, [], [], rfl, Ent.plain rfl rfl rfl trivial rfl, rfl, rfl⟩
      · simp only [bool, bl_size, g1, g2, hlI, FinR, evRes, evRVs, evRV, am, simprocAttr, tys]
        exact ⟨_, [], [], rfl, Ent.plain rfl rfl rfl trivial rfl, rfl, rfl⟩
    · simp only [bool, bl_size, g1, hlI, FinR, evRes, evRVs, evRV, am, simprocAttr, tys]
      exact ⟨_, [], [], rfl, Ent.plain rfl rfl rfl trivial rfl, rfl, rfl⟩
end Go.Proofs.Ytflpphgccjlkjaa

set_option linter.unusedSimpArgs false
set_option linter.unusedVariables false
namespace Go.Proofs.Ytflpphgccjlkjaa
open Go Go.AM

def digB (b : UInt8) : Bool := decide (48 ≤ b.toNat) && decide (b.toNat ≤ 57)
theorem badR_eq (b : UInt8) : badR b.toNat = !(letB b || digB b || b.toNat == 95) := by
  unfold badR letB digB
  rw [Bool.eq_iff_iff]
  simp [bne]
  omega

def passB (s : List UInt8) (j : Nat) : Bool := match s[j]? with | some b => letB b || (decide (j ≠ 0) && (digB b || b.toNat == 95)) | none => true

theorem nameOk_of (s : List UInt8) (h : ∀ j, j < s.length → passB s j = true) : nameOk s = (decide (1 ≤ s.length) && decide (s.length ≤ 16)) := by
  unfold nameOk
  cases s with
  | nil => simp
  | cons b t =>
    have h0 := h 0 (by simp)
    have hl : letB b = true := by simpa [passB] using h0
    have ha : ((b :: t).any fun b => badR b.toNat) = false := by
      rw [List.any_eq_false]
      intro x hx
      obtain ⟨j, hj, rfl⟩ := List.getElem_of_mem hx
      have := h j hj
      unfold passB at this
      rw [List.getElem?_eq_getElem hj] at this
      simp only at this
      rw [badR_eq]
      simp only [Bool.or_eq_true, Bool.and_eq_true] at this
      rcases this with h | ⟨_, h⟩
      · simp [h]
      · rcases h with h | h <;> simp [h]
    simp only [List.headD_cons, hl, ha, Bool.not_false, Bool.and_true]

theorem nameOk_not (s : List UInt8) (j : Nat) (hj : j < s.length) (h : passB s j = false) : nameOk s = false := by
  unfold passB at h
  rw [List.getElem?_eq_getElem hj] at h
  simp only [Bool.or_eq_false_iff] at h
  unfold nameOk
  by_cases h0 : j = 0
  · subst h0
    have : s.headD 0 = s[0] := by cases s with | nil => simp at hj | cons b t => rfl
    rw [this, h.1]; simp
  · have h2 : (digB s[j] || s[j].toNat == 95) = false := by
      have := h.2
      simpa [h0] using this
    have hb : badR s[j].toNat = true := by
      rw [badR_eq, h.1, Bool.false_or, h2]; rfl
    have : (s.any fun b => badR b.toNat) = true := by
      rw [List.any_eq_true]; exact ⟨s[j], List.getElem_mem hj, hb⟩
    rw [this]; simp

theorem getD_get (s : List UInt8) (i : Nat) (h : i < s.length) : s.getD i 0 = s[i] := by simp [h]

set_option maxRecDepth 8000 in
set_option maxHeartbeats 4000000 in
theorem refName (s : List UInt8) (hl : s.length ≤ 9223372036854775807) : AFun Try.prog 82 [str s] [] (bool (nameOk s)) [] := by
  refine AFun.of_walk hP Try.func82 rfl rfl rfl (by simp) rfl ?_
  simp only [Try.f82, str, am, simprocAttr, tys]
  refine ALoopW.intro 56 0 (ι := { i : Nat // i ≤ s.length ∧ ∀ j, j < i → passB s j = true }) (fun i => [(0, .d (.lit (.string ⟨⟨s⟩⟩))), (3, .d (.lit (.int .i64 i.1)))]) (fun _ => []) (fun i => s.length - i.1) ⟨0, by omega, by intro j hj; omega⟩ [] [] ?_ (fun ⟨i, hi, hall⟩ => ?_)
  · exact Ent.plain rfl rfl rfl (⟨.inr rfl, .inr rfl, trivial⟩) rfl
  rcases Nat.lt_or_ge i s.length with hlt | hge
  · have hlt2 : ((i : Int) < s.length) := by omega
    have e1 : IntKind.i64.wrap ((i : Int) + 1) = ((i + 1 : Nat) : Int) := by rw [IntWalk.i64_in _ (by omega)]; simp
    have hp : passB s i = (letB s[i] || (decide (i ≠ 0) && (digB s[i] || s[i].toNat == 95))) := by
      unfold passB; rw [List.getElem?_eq_getElem hlt]
    have c1 : letB s[i] = (decide ((97 : Int) ≤ (s[i].toNat : Int)) && decide ((s[i].toNat : Int) ≤ 122)) := by
      unfold letB; rw [Bool.eq_iff_iff]; simp; omega
    have c2 : digB s[i] = (decide ((48 : Int) ≤ (s[i].toNat : Int)) && decide ((s[i].toNat : Int) ≤ 57)) := by
      unfold digB; rw [Bool.eq_iff_iff]; simp; omega
    have c3 : (s[i].toNat == 95) = !((s[i].toNat : Int) != 95) := by
      rw [Bool.eq_iff_iff]; simp; omega
    have c4 : decide (i ≠ 0) = !((i : Int) == 0) := by
      rw [Bool.eq_iff_iff]; simp
    rw [c1, c2, c3, c4] at hp
    have hcont : passB s i = true → ∀ j, j < i + 1 → passB s j = true := fun h j hj => by
      rcases Nat.lt_or_ge j i with hj' | hj'
      · exact hall j hj'
      · have : j = i := by omega
        subst this; exact h
    rcases g1 : decide ((97 : Int) ≤ (s[i].toNat : Int)) with _ | _ <;> rcases g2 : decide ((s[i].toNat : Int) ≤ 122) with _ | _ <;> rcases g3 : decide ((48 : Int) ≤ (s[i].toNat : Int)) with _ | _ <;> rcases g4 : decide ((s[i].toNat : Int) ≤ 57) with _ | _ <;> rcases g6 : ((i : Int) == 0) with _ | _ <;> rcases g5 : ((s[i].toNat : Int) != 95) with _ | _ <;>
      (rw [g1, g2, g3, g4, g5, g6] at hp
       simp only [am, simprocAttr, tys] at hp
       first
       | (have hn := nameOk_not s i hlt hp
          simp only [bl_size, hlt2, getD_get s i hlt, g1, g2, g3, g4, g5, g6, hn, bool, Int.natCast_nonneg, Int.toNat_natCast, FinR, evRes, evRVs, evRV, am, simprocAttr, tys]
          exact ⟨_, [], [], rfl, Ent.plain rfl rfl rfl trivial rfl, rfl, rfl⟩)
       | (have hn := hcont hp
          simp only [bl_size, hlt2, getD_get s i hlt, g1, g2, g3, g4, g5, g6, e1, Int.natCast_nonneg, Int.toNat_natCast, am, simprocAttr, tys]
          exact ⟨⟨i + 1, by omega, hn⟩, [], [], Ent.plain rfl rfl rfl (⟨.inr rfl, .inr rfl, trivial⟩) rfl, by show s.length - (i + 1) < s.length - i; omega⟩))
  · have hlt2 : ¬ ((i : Int) < s.length) := by omega
    have hn := nameOk_of s (fun j hj => hall j (by omega))
    have e : decide (1 ≤ s.length) = decide ((1 : Int) ≤ s.length) := by rw [decide_eq_decide]; omega
    have e' : decide (s.length ≤ 16) = decide ((s.length : Int) ≤ 16) := by rw [decide_eq_decide]; omega
    rw [e, e'] at hn
    rcases h1 : decide ((1 : Int) ≤ s.length) with _ | _
    · rw [h1] at hn
      simp only [bl_size, hlt2, h1, hn, bool, FinR, evRes, evRVs, evRV, am, simprocAttr, tys]
      exact ⟨_, [], [], rfl, Ent.plain rfl rfl rfl trivial rfl, rfl, rfl⟩
    · rw [h1] at hn
      simp only [bl_size, hlt2, h1, hn, bool, FinR, evRes, evRVs, evRV, am, simprocAttr, tys]
      exact ⟨_, [], [], rfl, Ent.plain rfl rfl rfl trivial rfl, rfl, rfl⟩
end Go.Proofs.Ytflpphgccjlkjaa

set_option linter.unusedSimpArgs false
set_option linter.unusedVariables false
namespace Go.Proofs.Ytflpphgccjlkjaa
open Go Go.AM

/-- the first that p is true of -/
theorem idxAsk0 (l : List Ask) (p : Ask → Bool) (f : Nat) (hl : l.length ≤ 9223372036854775807) (hf : isFn Try.prog f = true)
    (hc : ∀ a ∈ l, AFun Try.prog f [.d (.agg (encA a))] [] (bool (p a)) []) :
    AFun Try.prog 103 [.d (.sl 3 (l.map encA)), .clo (.func f) [] []] []
      (int (ixI (l.findIdx? p))) [] := by
  refine AFun.of_walk hP Try.func103 rfl rfl rfl (by simp) rfl ?_
  simp only [Try.f103, am, simprocAttr, tys]
  refine ALoopW.intro 19 0 (ι := { i : Nat // i ≤ l.length ∧ (l.take i).findIdx? p = none }) (fun i => [(0, .d (.sl 3 (l.map encA))), (1, .clo (.func f) [] []), (6, .d (.sl 3 (l.map encA))), (7, .d (.lit (.int .i64 l.length))), (8, .d (.lit (.int .i64 i.1)))]) (fun _ => []) (fun i => l.length - i.1) ⟨0, by omega, by simp⟩ [] [] ?_ (fun ⟨i, hi, hfd⟩ => ?_)
  · exact Ent.plain rfl rfl rfl (⟨.inr rfl, .inr rfl, .inr rfl, .inr rfl, .inr rfl, trivial⟩) rfl
  rcases Nat.lt_or_ge i l.length with hlt | hge
  · have hb : l[i]? = some l[i] := List.getElem?_eq_getElem hlt
    have hlt2 : ((i : Int) < l.length) := by omega
    have hst := findIdx_step p l i hlt hfd
    have e1 : IntKind.i64.wrap ((i : Int) + 1) = ((i + 1 : Nat) : Int) := by rw [IntWalk.i64_in _ (by omega)]; simp
    simp only [hb, hlt2, encA, Int.natCast_nonneg, hf, am, simprocAttr, tys]
    refine ACall.of (hc l[i] (List.getElem_mem hlt)) [] [] rfl (by simp) (by simp) (by simp) (by repeat' (first | exact trivial | exact .inl rfl | exact .inr rfl | exact .inr ⟨rfl, rfl, rfl, by simp; done⟩ | exact .inr ⟨rfl, by simp; done⟩ | exact .inr ⟨rfl, rfl, by simp; done⟩ | apply And.intro)) (by repeat' (first | exact trivial | rfl | exact (tkC_ren.1 _ _).symm | (simp; done) | apply And.intro)) (by first | exact .inl rfl | (refine .inr ⟨trivial, ?_⟩; first | (intro row h; rcases List.mem_singleton.1 h with rfl; exact nvB _) | (intro row h; cases h; done) | (simp; done)) | (refine .inr ⟨by simp [nvP, nvP.nvPs, nvD, nilS, errno], ?_⟩; first | (intro row h; rcases List.mem_singleton.1 h with rfl; exact nvB _) | (intro row h; cases h; done) | (simp [nvRow, nvD, nvP]; done))) ?_
    simp only [e1, bool, am, simprocAttr, tys]
    rcases hp : p l[i] with _ | _
    · rw [hp] at hst
      simp only [am, simprocAttr, tys] at hst
      simp only [am, simprocAttr, tys]
      exact ⟨⟨i + 1, by omega, hst⟩, [], [], Ent.plain rfl rfl rfl (⟨.inr rfl, .inr rfl, .inr rfl, .inr rfl, .inr rfl, trivial⟩) rfl, by show l.length - (i + 1) < l.length - i; omega⟩
    · rw [hp] at hst
      simp only [am, simprocAttr, tys] at hst
      have hfull : l.findIdx? p = some i := by
        conv => lhs; rw [← List.take_append_drop (i + 1) l]
        rw [List.findIdx?_append, hst]; rfl
      simp only [hfull, ixI, int, FinR, evRes, evRVs, evRV, am, simprocAttr, tys]
      exact ⟨_, [], [], rfl, Ent.plain rfl rfl rfl trivial rfl, rfl, rfl⟩
  · have hlt2 : ¬ ((i : Int) < l.length) := by omega
    have hi' : i = l.length := by omega
    subst hi'
    rw [List.take_length] at hfd
    simp only [hlt2, hfd, ixI, FinR, evRes, evRVs, evRV, int, am, simprocAttr, tys]
    exact ⟨_, [], [], rfl, Ent.plain rfl rfl rfl trivial rfl, rfl, rfl⟩

theorem containsAsk0 (l : List Ask) (p : Ask → Bool) (f : Nat) (hl : l.length ≤ 9223372036854775807) (hf : isFn Try.prog f = true)
    (hc : ∀ a ∈ l, AFun Try.prog f [.d (.agg (encA a))] [] (bool (p a)) []) :
    AFun Try.prog 95 [.d (.sl 3 (l.map encA)), .clo (.func f) [] []] [] (bool (l.any p)) [] := by
  refine AFun.of_walk hP Try.func95 rfl rfl rfl (by simp) rfl ?_
  simp only [Try.f95, am, simprocAttr, tys]
  refine ACall.of (idxAsk0 l p f hl hf hc) [] [] rfl (by simp) (by simp) (by simp) (by repeat' (first | exact trivial | exact .inl rfl | exact .inr rfl | exact .inr ⟨rfl, rfl, rfl, by simp; done⟩ | exact .inr ⟨rfl, by simp; done⟩ | exact .inr ⟨rfl, rfl, by simp; done⟩ | apply And.intro)) (by repeat' (first | exact trivial | rfl | exact (tkC_ren.1 _ _).symm | (simp; done) | apply And.intro)) (by first | exact .inl rfl | (refine .inr ⟨trivial, ?_⟩; first | (intro row h; rcases List.mem_singleton.1 h with rfl; exact nvB _) | (intro row h; cases h; done) | (simp; done)) | (refine .inr ⟨by simp [nvP, nvP.nvPs, nvD, nilS, errno], ?_⟩; first | (intro row h; rcases List.mem_singleton.1 h with rfl; exact nvB _) | (intro row h; cases h; done) | (simp [nvRow, nvD, nvP]; done))) ?_
  simp only [int, findIdx_any, FinR, evRes, evRVs, evRV, am, simprocAttr, tys]
  exact ⟨_, [], [], rfl, Ent.plain rfl rfl rfl trivial rfl, rfl, rfl⟩


/-- whether one thing may be asked -/
def mayOk (a : Ask) : Bool := nameOk a.2.1 && decide (a.2.2.1.length ≤ 64) && (if a.1 = 1 then !(a.2.2.1 == []) else if a.1 = 4 then a.2.2.1 == [] else decide (a.1 = 2) || decide (a.1 = 3))
def rightA (l : List Ask) : Bool := l.all mayOk && decide (l.length ≤ 8)

theorem matchMay (a : Ask) (hn : a.2.1.length ≤ 9223372036854775807) : AFun Try.prog 97 [.d (.agg (encA a))] [] (bool (mayOk a)) [] := by
  obtain ⟨op, name, val, _⟩ := a
  refine AFun.of_walk hP Try.func97 rfl rfl rfl (by simp) rfl ?_
  have e2 : ((op.toNat : Int) == 2) = decide (op = 2) := u8eq op 2 (by omega)
  have e1 : ((op.toNat : Int) == 1) = decide (op = 1) := u8eq op 1 (by omega)
  have e3 : ((op.toNat : Int) == 3) = decide (op = 3) := u8eq op 3 (by omega)
  have e4 : ((op.toNat : Int) == 4) = decide (op = 4) := u8eq op 4 (by omega)
  simp only [Try.f97, encA, mayOk, am, simprocAttr, tys]
  refine ACall.of (labelName name hn) [] [] rfl (by simp) (by simp) (by simp) (by repeat' (first | exact trivial | exact .inl rfl | exact .inr rfl | exact .inr ⟨rfl, rfl, rfl, by simp; done⟩ | exact .inr ⟨rfl, by simp; done⟩ | exact .inr ⟨rfl, rfl, by simp; done⟩ | apply And.intro)) (by repeat' (first | exact trivial | rfl | exact (tkC_ren.1 _ _).symm | (simp; done) | apply And.intro)) (by first | exact .inl rfl | (refine .inr ⟨trivial, ?_⟩; first | (intro row h; rcases List.mem_singleton.1 h with rfl; exact nvB _) | (intro row h; cases h; done) | (simp; done)) | (refine .inr ⟨by simp [nvP, nvP.nvPs, nvD, nilS, errno], ?_⟩; first | (intro row h; rcases List.mem_singleton.1 h with rfl; exact nvB _) | (intro row h; cases h; done) | (simp [nvRow, nvD, nvP]; done))) ?_
  rcases hnm : nameOk name with _ | _
  · simp only [bool, FinR, evRes, evRVs, evRV, am, simprocAttr, tys]
    exact ⟨_, [], [], rfl, Ent.plain rfl rfl rfl trivial rfl, rfl, rfl⟩
  · rcases Nat.lt_or_ge 64 val.length with hv | hv
    · have hI : ((64 : Int) < val.length) := by omega
      have hd : decide (val.length ≤ 64) = false := decide_eq_false (by omega)
      simp only [bool, bl_size, hI, hd, FinR, evRes, evRVs, evRV, am, simprocAttr, tys]
      exact ⟨_, [], [], rfl, Ent.plain rfl rfl rfl trivial rfl, rfl, rfl⟩
    · have hI : ¬ ((64 : Int) < val.length) := by omega
      have hd : decide (val.length ≤ 64) = true := decide_eq_true (by omega)
      by_cases h1 : op = 1
      · simp only [bool, bl_size, bl_toList, hI, hd, e1, h1, FinR, evRes, evRVs, evRV, am, simprocAttr, tys]
        exact ⟨_, [], [], rfl, Ent.plain rfl rfl rfl trivial rfl, rfl, rfl⟩
      · by_cases h4 : op = 4
        · simp only [bool, bl_size, bl_toList, hI, hd, e1, h1, e4, h4, FinR, evRes, evRVs, evRV, am, simprocAttr, tys]
          exact ⟨_, [], [], rfl, Ent.plain rfl rfl rfl trivial rfl, rfl, rfl⟩
        · by_cases h2 : op = 2
          · simp only [bool, bl_size, bl_toList, hI, hd, e1, h1, e4, h4, e2, h2, FinR, evRes, evRVs, evRV, am, simprocAttr, tys]
            exact ⟨_, [], [], rfl, Ent.plain rfl rfl rfl trivial rfl, rfl, rfl⟩
          · by_cases h3 : op = 3
            · simp only [bool, bl_size, bl_toList, hI, hd, e1, h1, e4, h4, e2, h2, e3, h3, FinR, evRes, evRVs, evRV, am, simprocAttr, tys]
              exact ⟨_, [], [], rfl, Ent.plain rfl rfl rfl trivial rfl, rfl, rfl⟩
            · simp only [bool, bl_size, bl_toList, hI, hd, e1, h1, e4, h4, e2, h2, e3, h3, FinR, evRes, evRVs, evRV, am, simprocAttr, tys]
              exact ⟨_, [], [], rfl, Ent.plain rfl rfl rfl trivial rfl, rfl, rfl⟩

theorem right1 (a : Ask) (hn : a.2.1.length ≤ 9223372036854775807) : AFun Try.prog 96 [.d (.agg (encA a))] [] (bool (!(mayOk a))) [] := by
  refine AFun.of_walk hP Try.func96 rfl rfl rfl (by simp) rfl ?_
  simp only [Try.f96, encA, am, simprocAttr, tys]
  refine ACall.of (matchMay a hn) [] [] rfl (by simp) (by simp) (by simp) (by repeat' (first | exact trivial | exact .inl rfl | exact .inr rfl | exact .inr ⟨rfl, rfl, rfl, by simp; done⟩ | exact .inr ⟨rfl, by simp; done⟩ | exact .inr ⟨rfl, rfl, by simp; done⟩ | apply And.intro)) (by repeat' (first | exact trivial | rfl | exact (tkC_ren.1 _ _).symm | (simp; done) | apply And.intro)) (by first | exact .inl rfl | (refine .inr ⟨trivial, ?_⟩; first | (intro row h; rcases List.mem_singleton.1 h with rfl; exact nvB _) | (intro row h; cases h; done) | (simp; done)) | (refine .inr ⟨by simp [nvP, nvP.nvPs, nvD, nilS, errno], ?_⟩; first | (intro row h; rcases List.mem_singleton.1 h with rfl; exact nvB _) | (intro row h; cases h; done) | (simp [nvRow, nvD, nvP]; done))) ?_
  simp only [bool, FinR, evRes, evRVs, evRV, am, simprocAttr, tys]
  exact ⟨_, [], [], rfl, Ent.plain rfl rfl rfl trivial rfl, rfl, rfl⟩

theorem matchRight (l : List Ask) (hl : l.length ≤ 9223372036854775807) (hn : ∀ a ∈ l, a.2.1.length ≤ 9223372036854775807) : AFun Try.prog 76 [.d (.sl 3 (l.map encA))] [] (bool (rightA l)) [] := by
  refine AFun.of_walk hP Try.func76 rfl rfl rfl (by simp) rfl ?_
  unfold rightA
  have e : decide (l.length ≤ 8) = decide ((l.length : Int) ≤ 8) := by rw [decide_eq_decide]; omega
  rw [e]
  rcases h8 : decide ((l.length : Int) ≤ 8) with _ | _
  · simp only [Try.f76, h8, bool, Bool.and_false, FinR, evRes, evRVs, evRV, am, simprocAttr, tys]
    exact ⟨_, [], [], rfl, Ent.plain rfl rfl rfl trivial rfl, rfl, rfl⟩
  · simp only [Try.f76, h8, am, simprocAttr, tys]
    refine ACall.of (containsAsk0 l (fun x => !(mayOk x)) 96 hl (by kernel_rfl) (fun x hx => right1 x (hn x hx))) [] [] rfl (by simp) (by simp) (by simp) (by repeat' (first | exact trivial | exact .inl rfl | exact .inr rfl | exact .inr ⟨rfl, rfl, rfl, by simp; done⟩ | exact .inr ⟨rfl, by simp; done⟩ | exact .inr ⟨rfl, rfl, by simp; done⟩ | apply And.intro)) (by repeat' (first | exact trivial | rfl | exact (tkC_ren.1 _ _).symm | (simp; done) | apply And.intro)) (by first | exact .inl rfl | (refine .inr ⟨trivial, ?_⟩; first | (intro row h; rcases List.mem_singleton.1 h with rfl; exact nvB _) | (intro row h; cases h; done) | (simp; done)) | (refine .inr ⟨by simp [nvP, nvP.nvPs, nvD, nilS, errno], ?_⟩; first | (intro row h; rcases List.mem_singleton.1 h with rfl; exact nvB _) | (intro row h; cases h; done) | (simp [nvRow, nvD, nvP]; done))) ?_
    have e2 : (!(l.any fun x => !(mayOk x))) = l.all mayOk := by simp [List.not_any_eq_all_not]
    simp only [e2, bool, FinR, evRes, evRVs, evRV, am, simprocAttr, tys]
    exact ⟨_, [], [], rfl, Ent.plain rfl rfl rfl trivial rfl, rfl, rfl⟩
end Go.Proofs.Ytflpphgccjlkjaa
