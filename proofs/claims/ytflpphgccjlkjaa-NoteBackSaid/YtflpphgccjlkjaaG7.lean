/- Proved here: what the functions of the program compute. No condition. -/
import Derived.Test.YtflpphgccjlkjaaG6
import Derived.Test.YtflpphgccjlkjaaG1
import Derived.Shelf.RegionOpenPlain
import Derived.WalkKit
import Derived.Lib.Walk
import Derived.Lib.SliceRun
import Derived.Lib.AppendZeros
import Derived.Lib.AppendZerosOnto
import Derived.Lib.Overlaps
import Derived.Shelf.Spec.SlicesInsert
import Derived.Laws.Externs
import Derived.Laws.IdiomCopy
set_option linter.all false
set_option linter.unusedSimpArgs false
set_option linter.unusedVariables false
set_option linter.unusedSimpArgs false
set_option linter.unusedVariables false
namespace Go.Proofs.Ytflpphgccjlkjaa
open Go Go.AM

theorem mul16 (b : UInt8) : IntKind.u32.wrap (((b.toBitVec.setWidth 32).toNat : Int) * 16777216) = ((b.toBitVec.setWidth 32 <<< 24).toNat : Int) := by
  have := sl32 (b.toBitVec.setWidth 32) 24
  exact this

theorem bitLow (s : BitVec 32) (h : ((s.toNat : Nat) : Int) < 2147483648) : IntKind.u32.wrap (2 * (s.toNat : Int)) = ((crcBit s).toNat : Int) := by
  have hm : s.msb = false := by rw [BitVec.msb_eq_decide]; simp; omega
  rw [crcBit_msb, hm]
  simp only [Bool.false_eq_true, if_false, BitVec.xor_zero]
  rw [IntKind.wrap_u32, BitVec.toNat_shiftLeft, Nat.shiftLeft_eq]; omega

theorem bitHigh (s : BitVec 32) (h : ¬ ((s.toNat : Nat) : Int) < 2147483648) : evBits .xor .u32 (IntKind.u32.wrap (2 * IntKind.u32.wrap ((s.toNat : Int) - 2147483648))) 79764919 = ((crcBit s).toNat : Int) := by
  have hs := s.isLt
  have hm : s.msb = true := by rw [BitVec.msb_eq_decide]; simp; omega
  rw [crcBit_msb, hm]
  simp only [if_true]
  rw [IntWalk.u32_in ((s.toNat : Int) - 2147483648) (by omega)]
  have e : IntKind.u32.wrap (2 * ((s.toNat : Int) - 2147483648)) = ((s <<< 1).toNat : Int) := by
    rw [IntKind.wrap_u32, BitVec.toNat_shiftLeft, Nat.shiftLeft_eq]; omega
  rw [e]
  exact x32 (s <<< 1) 79764919#32

theorem notX (s : BitVec 32) : evBits .xor .u32 (s.toNat : Int) 4294967295 = ((~~~s).toNat : Int) := by
  have := x32 s (BitVec.allOnes 32)
  rw [BitVec.xor_allOnes] at this
  exact this

theorem refSum (bs : List UInt8) (hl : bs.length ≤ 9223372036854775807) : AFun Try.prog 57 [.d (.sl 1 (bs.map encB))] [] (w32 (crc bs)) [] := by
  refine AFun.of_walk hP Try.func57 rfl rfl rfl (by simp) rfl ?_
  simp only [Try.f57, am, simprocAttr, tys]
  refine ALoopW.intro 34 0 (ι := { i : Nat // i ≤ bs.length }) (fun i => [(3, w32 (crcF (bs.take i.1))), (0, .d (.sl 1 (bs.map encB))), (4, .d (.lit (.int .i64 i.1)))]) (fun _ => []) (fun i => bs.length - i.1) ⟨0, by omega⟩ [] [] ?_ (fun ⟨i, hi⟩ => ?_)
  · exact Ent.plain rfl rfl rfl ⟨.inr rfl, .inr rfl, .inr rfl, trivial⟩ rfl
  simp only [w32, am, simprocAttr, tys]
  split
  · rename_i hlt
    have hlt' : i < bs.length := by have := of_decide_eq_true hlt; omega
    have hb : bs[i]? = some bs[i] := List.getElem?_eq_getElem hlt'
    simp only [hb, encB, Int.natCast_nonneg, cb_32, mul16, x32, am, simprocAttr, tys]
    refine ALoopW.intro 34 0 (ι := { k : Nat // k ≤ 8 }) (fun k => [(3, w32 (Nat.repeat crcBit k.1 (crcF (bs.take i) ^^^ (bs[i].toBitVec.setWidth 32 <<< 24)))), (0, .d (.sl 1 (bs.map encB))), (4, .d (.lit (.int .i64 i))), (5, .d (.lit (.int .i64 k.1)))]) (fun _ => []) (fun k => 8 - k.1) ⟨0, by omega⟩ [] [] ?_ (fun ⟨k, hk⟩ => ?_)
    · exact Ent.plain rfl rfl rfl ⟨.inr rfl, .inr rfl, .inr rfl, .inr rfl, trivial⟩ rfl
    have hX2 : Nat.repeat crcBit (k + 1) (crcF (bs.take i) ^^^ (bs[i].toBitVec.setWidth 32 <<< 24)) = crcBit (Nat.repeat crcBit k (crcF (bs.take i) ^^^ (bs[i].toBitVec.setWidth 32 <<< 24))) := rfl
    have hem : ∀ p : Prop, p ∨ ¬ p := Classical.em
    generalize hX : Nat.repeat crcBit k (crcF (bs.take i) ^^^ (bs[i].toBitVec.setWidth 32 <<< 24)) = X at hX2 ⊢
    have e1 : k < 8 → IntKind.i64.wrap ((k : Int) + 1) = ((k + 1 : Nat) : Int) := fun h => by rw [IntWalk.i64_in _ (by omega)]; simp
    rcases hem (k < 8) with hk' | hk'
    · have hk8 : ((k : Int) < 8) := by omega
      rcases hem (((X.toNat : Nat) : Int) < 2147483648) with hlo | hlo
      · simp only [w32, hX, hk8, hlo, e1 hk', bitLow X hlo, am, simprocAttr, tys]
        rw [← hX2]
        exact ⟨⟨k + 1, by omega⟩, [], [], Ent.plain rfl rfl rfl ⟨.inr rfl, .inr rfl, .inr rfl, .inr rfl, trivial⟩ rfl, by show 8 - (k + 1) < 8 - k; omega⟩
      · simp only [w32, hX, hk8, hlo, e1 hk', bitHigh X hlo, am, simprocAttr, tys]
        rw [← hX2]
        exact ⟨⟨k + 1, by omega⟩, [], [], Ent.plain rfl rfl rfl ⟨.inr rfl, .inr rfl, .inr rfl, .inr rfl, trivial⟩ rfl, by show 8 - (k + 1) < 8 - k; omega⟩
    · have hk8 : ¬ ((k : Int) < 8) := by omega
      have hk'' : k = 8 := by omega
      have e1 : IntKind.i64.wrap ((i : Int) + 1) = ((i + 1 : Nat) : Int) := by rw [IntWalk.i64_in _ (by omega)]; simp
      have e2 : X = crcF (bs.take (i + 1)) := by rw [← hX, hk'']; exact (crcF_succ bs i hlt').symm
      simp only [w32, hX, hk8, e1, e2, am, simprocAttr, tys]
      exact ⟨⟨i + 1, by omega⟩, [], [], Ent.plain rfl rfl rfl ⟨.inr rfl, .inr rfl, .inr rfl, trivial⟩ rfl, by show bs.length - (i + 1) < bs.length - i; omega⟩
  · rename_i hlt
    have hi' : i = bs.length := by
      have : ¬ ((i : Int) < bs.length) := fun h => hlt (decide_eq_true h)
      omega
    subst hi'
    simp only [List.take_length, notX, FinR, evRes, evRVs, evRV, am, simprocAttr, tys]
    exact ⟨_, [], [], rfl, Ent.plain rfl rfl rfl trivial rfl, rfl, rfl⟩

/-! ## the document's bytes -/
theorem by24 (x : BitVec 32) : IntKind.u8.wrap (IntKind.u32.wrap ((x.toNat : Int).tdiv 16777216)) = (((x >>> 24).setWidth 8).toNat : Int) := by
  have e : (x.toNat : Int).tdiv 16777216 = ((x.toNat / 16777216 : Nat) : Int) := rfl
  have h := x.isLt
  rw [e, IntWalk.u32_in _ (by omega), IntKind.wrap_u8, BitVec.toNat_setWidth, BitVec.toNat_ushiftRight, Nat.shiftRight_eq_div_pow]; omega
theorem by16 (x : BitVec 32) : IntKind.u8.wrap ((IntKind.u32.wrap ((x.toNat : Int).tdiv 65536)).tmod 256) = (((x >>> 16).setWidth 8).toNat : Int) := by
  have e : (x.toNat : Int).tdiv 65536 = ((x.toNat / 65536 : Nat) : Int) := rfl
  have h := x.isLt
  rw [e, IntWalk.u32_in _ (by omega)]
  have e2 : ((x.toNat / 65536 : Nat) : Int).tmod 256 = ((x.toNat / 65536 % 256 : Nat) : Int) := rfl
  rw [e2, IntKind.wrap_u8, BitVec.toNat_setWidth, BitVec.toNat_ushiftRight, Nat.shiftRight_eq_div_pow]; omega
theorem by8 (x : BitVec 32) : IntKind.u8.wrap ((IntKind.u32.wrap ((x.toNat : Int).tdiv 256)).tmod 256) = (((x >>> 8).setWidth 8).toNat : Int) := by
  have e : (x.toNat : Int).tdiv 256 = ((x.toNat / 256 : Nat) : Int) := rfl
  have h := x.isLt
  rw [e, IntWalk.u32_in _ (by omega)]
  have e2 : ((x.toNat / 256 : Nat) : Int).tmod 256 = ((x.toNat / 256 % 256 : Nat) : Int) := rfl
  rw [e2, IntKind.wrap_u8, BitVec.toNat_setWidth, BitVec.toNat_ushiftRight, Nat.shiftRight_eq_div_pow]; omega
theorem by0 (x : BitVec 32) : IntKind.u8.wrap ((x.toNat : Int).tmod 256) = ((x.setWidth 8).toNat : Int) := by
  have e2 : (x.toNat : Int).tmod 256 = ((x.toNat % 256 : Nat) : Int) := rfl
  rw [e2, IntKind.wrap_u8, BitVec.toNat_setWidth]; omega

theorem refSPut (bs : List UInt8) (hl : bs.length ≤ 1000000000000) :
    AFun Try.prog 29 [.d (.sl 1 (bs.map encB))] [] (.own 0) [.own 1 ((sealed bs).map encB)] := by
  have hlen := leb_len 9 bs.length (by omega)
  refine AFun.of_walk hP Try.func29 rfl rfl rfl (by simp) rfl ?_
  have e1 : IntKind.u64.wrap (bs.length : Int) = bs.length := IntWalk.u64_in _ (by omega)
  simp only [Try.f29, e1, am, simprocAttr, tys]
  refine ACall.of (refPut [] bs.length (by simp) (by omega)) [] [] rfl (by simp) (by simp) (by simp) ⟨.inr rfl, .inl rfl, trivial⟩ trivial (.inl rfl) ?_
  simp only [am, simprocAttr, tys]
  refine ⟨by omega, ?_⟩
  rw [← List.map_append]
  refine ACall.of (refSum (leb bs.length ++ bs) (by simp; omega)) [] [1] rfl (by simp) (by simp) (by simp) ⟨.inr ⟨rfl, by simp⟩, trivial⟩ trivial (.inr ⟨trivial, by simp⟩) ?_
  simp only [w32, by24, by16, by8, by0, FinR, evRes, evRVs, evRV, am, simprocAttr, tys]
  refine ⟨by omega, ?_⟩
  refine ⟨_, [], [3], rfl, ⟨rfl, rfl, Nat.zero_le _, fun i hi => by omega, trivial, ⟨.inr ⟨by decide, ?_⟩, trivial⟩, rfl, by decide, rfl, rfl⟩, rfl, rfl⟩
  simp only [sealed, be32, List.map_append]; rfl
end Go.Proofs.Ytflpphgccjlkjaa

set_option linter.unusedSimpArgs false
set_option linter.unusedVariables false
namespace Go.Proofs.Ytflpphgccjlkjaa
open Go Go.AM

theorem sealed_take (n : Nat) (r : List UInt8) (hn : n ≤ r.length) : (sealed (r.take n)).length = (leb n).length + n + 4 ∧ (n + 4 ≤ r.length → (sealed (r.take n) == (leb n ++ r).take ((leb n).length + n + 4)) = decide ((r.drop n).take 4 = be32 (crc (leb n ++ r.take n)))) := by
  have hx : (r.take n).length = n := by rw [List.length_take]; omega
  refine ⟨by rw [sealed_len, hx], fun h4 => ?_⟩
  have e : (leb n ++ r).take ((leb n).length + n + 4) = leb n ++ r.take n ++ (r.drop n).take 4 := by
    rw [Nat.add_assoc, List.take_length_add_append, List.append_assoc, List.take_add]
  rw [e]
  unfold sealed
  rw [hx, Bool.eq_iff_iff, beq_iff_eq, decide_eq_true_eq, List.append_cancel_left_eq]
  exact eq_comm

set_option maxRecDepth 8000 in
theorem refSTake (b : List UInt8) (hl : b.length ≤ 100000000) : AFun Try.prog 44 [byts b] [] (takeR (takeSeal b)) [] := by
  refine AFun.of_walk hP Try.func44 rfl rfl rfl (by simp) rfl ?_
  simp only [Try.f44, byts, am, simprocAttr, tys]
  refine ⟨by omega, ?_⟩
  refine ACall.frz [1] ?_
  simp only [am, simprocAttr, tys]
  refine ACall.of (refNum (some b) (by intro bs h; cases h; omega)) [2] [] rfl (by simp) (by simp) (by simp) (by repeat' (first | exact trivial | exact .inl rfl | exact .inr rfl | exact .inr ⟨rfl, rfl, rfl, by simp; done⟩ | exact .inr ⟨rfl, by simp; done⟩ | exact .inr ⟨rfl, rfl, by simp; done⟩ | apply And.intro)) (by repeat' (first | exact trivial | rfl | exact (tkC_ren.1 _ _).symm | (simp; done) | apply And.intro)) (by first | exact .inl rfl | (refine .inr ⟨trivial, ?_⟩; first | (intro row h; rcases List.mem_singleton.1 h with rfl; exact nvB _) | (intro row h; cases h; done) | (simp; done)) | (refine .inr ⟨by simp [nvP, nvP.nvPs, nvD, nilS, errno], ?_⟩; first | (intro row h; rcases List.mem_singleton.1 h with rfl; exact nvB _) | (intro row h; cases h; done) | (simp [nvRow, nvD, nvP]; done))) ?_
  simp only [tkC_ren, am, simprocAttr, tys]
  rcases hk : takeNum b with _ | ⟨n, r⟩
  · have ht : takeSeal b = none := by unfold takeSeal; rw [hk]
    simp only [ht, takeR, numT, hk, tkC, nilS, bool, byts, u64, FinR, evRes, evRVs, evRV, am, simprocAttr, tys]
    exact ⟨_, [], [], rfl, Ent.plain rfl rfl rfl trivial rfl, rfl, rfl⟩
  · obtain ⟨g4, g5⟩ := takeNum_some hk
    have g6 := leb_pos n
    have g7 := leb_ten n g4
    have gl : b.length = (leb n).length + r.length := by rw [g5]; simp
    have w1 : IntKind.u64.wrap (r.length : Int) = r.length := IntWalk.u64_in _ (by omega)
    rcases Nat.lt_or_ge r.length n with hn | hn
    · have hnI : ((r.length : Int) < (n : Int)) := by omega
      have ht : takeSeal b = none := by
        unfold takeSeal; rw [hk]
        simp only
        rw [if_neg (by omega)]
      simp only [ht, takeR, numT, hk, tkC, nilS, bool, byts, u64, w1, hnI, FinR, evRes, evRVs, evRV, am, simprocAttr, tys]
      exact ⟨_, [], [], rfl, Ent.plain rfl rfl rfl trivial rfl, rfl, rfl⟩
    · have hnI : ¬ ((r.length : Int) < (n : Int)) := by omega
      have hnI2 : ((n : Int) ≤ (r.length : Int)) := by omega
      have hxl : (r.take n).length = n := by rw [List.length_take]; omega
      obtain ⟨q1, q2⟩ := sealed_take n r hn
      simp only [numT, hk, tkC, nilS, bool, byts, u64, w1, hnI, hnI2, hxl, Int.natCast_nonneg, Int.toNat_natCast, ← List.map_take, ← List.map_drop, List.drop_zero, am, simprocAttr, tys]
      refine ⟨by omega, ?_⟩
      refine ACall.of (refSPut (r.take n) (by omega)) [] [4] rfl (by simp) (by simp) (by simp) (by repeat' (first | exact trivial | exact .inl rfl | exact .inr rfl | exact .inr ⟨rfl, rfl, rfl, by simp; done⟩ | exact .inr ⟨rfl, by simp; done⟩ | exact .inr ⟨rfl, rfl, by simp; done⟩ | apply And.intro)) (by repeat' (first | exact trivial | rfl | exact (tkC_ren.1 _ _).symm | (simp; done) | apply And.intro)) (by first | exact .inl rfl | (refine .inr ⟨trivial, ?_⟩; first | (intro row h; rcases List.mem_singleton.1 h with rfl; exact nvB _) | (intro row h; cases h; done) | (simp; done)) | (refine .inr ⟨by simp [nvP, nvP.nvPs, nvD, nilS, errno], ?_⟩; first | (intro row h; rcases List.mem_singleton.1 h with rfl; exact nvB _) | (intro row h; cases h; done) | (simp [nvRow, nvD, nvP]; done))) ?_
      rcases Nat.lt_or_ge r.length (n + 4) with h4 | h4
      · have hI : ((b.length : Int) < (((leb n).length + n + 4 : Nat) : Int)) := by omega
        have ht : takeSeal b = none := by
          unfold takeSeal; rw [hk]
          simp only
          rw [if_neg (by omega)]
        simp only [ht, takeR, nilS, q1, hI, FinR, evRes, evRVs, evRV, am, simprocAttr, tys]
        exact ⟨by kernel_rfl, ⟨_, [], [], rfl, Ent.plain rfl rfl rfl trivial rfl, rfl, rfl⟩⟩
      · have hI : ¬ ((b.length : Int) < (((leb n).length + n + 4 : Nat) : Int)) := by omega
        have hI2 : ((((leb n).length + n + 4 : Nat) : Int) ≤ (b.length : Int)) := by omega
        have q3 := q2 h4
        rw [← g5] at q3
        have t5 : b.drop ((leb n).length + n + 4) = r.drop (n + 4) := by rw [g5, Nat.add_assoc, List.drop_length_add_append]
        rcases hq : decide ((r.drop n).take 4 = be32 (crc (leb n ++ r.take n))) with _ | _
        · have ht : takeSeal b = none := by
            unfold takeSeal; rw [hk]
            simp only
            rw [if_neg (fun h => by rw [decide_eq_false_iff_not] at hq; exact hq h.2)]
          simp only [ht, takeR, nilS, q1, q3, hq, hI, hI2, Int.natCast_nonneg, Int.toNat_natCast, ← List.map_take, ← List.map_drop, List.drop_zero, strOf_encB, bl_toList, FinR, evRes, evRVs, evRV, am, simprocAttr, tys]
          exact ⟨by kernel_rfl, ⟨_, [], [], rfl, Ent.plain rfl rfl rfl trivial rfl, rfl, rfl⟩⟩
        · have ht : takeSeal b = some (r.take n, r.drop (n + 4)) := by
            unfold takeSeal; rw [hk]
            simp only
            rw [if_pos ⟨by omega, of_decide_eq_true hq⟩]
          have l2 : (r.drop (n + 4)).length ≤ r.length := by simp
          simp only [ht, takeR, byts, errno, q1, q3, hq, hI, hI2, t5, Int.natCast_nonneg, Int.toNat_natCast, ← List.map_take, ← List.map_drop, List.drop_zero, List.take_length, strOf_encB, bl_toList, FinR, evRes, evRVs, evRV, am, simprocAttr, tys]
          exact ⟨by kernel_rfl, by omega, by omega, ⟨_, [4, 967], [], rfl, ⟨rfl, rfl, by simp, (fun i hi => absurd hi (Nat.not_lt_zero _)), trivial, trivial, rfl, by decide, rfl, (by first | rfl | simp [scRow, tkC_scs])⟩, rfl, rfl⟩⟩
end Go.Proofs.Ytflpphgccjlkjaa

set_option linter.unusedSimpArgs false
set_option linter.unusedVariables false
namespace Go.Proofs.Ytflpphgccjlkjaa
open Go Go.AM Go.Lib

/-! ## slices.Insert of a nil pointer among thirteen -/
theorem run_copyB {P : Program} (w : World) (dT sT ty e : TypeId) (b o dl dc sz n sl : Nat) (A : Array Value) (eA : TypeId) (frA : Nat × Nat) (src : Value) (vs : List Value) (hu : P.underlying dT = some (.slice e))
    (he : (Go.sizeOf e).run P w = .ok sz w) (hlen : (Builtin.lenOf src).run P w = .ok sl w) (hn : Nat.min sl dl = n) (hf : (Builtin.firstCells sz n src).run P w = .ok vs.toArray w)
    (hb : w.heap[b]? = some (.cells A eA frA)) (ht : Thaw frA A.size) (hfit : o + vs.length ≤ A.size) (hoc : ∀ u ∈ vs, oc u = true) :
    (Builtin.copy_ #[dT, sT] ty #[.slice (some ⟨b, o, none⟩) dl dc, src]).run P w = .ok (goInt n) (setBlk w b (.cells (A.toList.take o ++ vs ++ A.toList.drop (o + vs.length)).toArray eA frA)) := by
  have hst := run_storeCells (P := P) (off := o) vs 0 A w hb ht (by simpa using hfit) hoc
  simp only [Nat.add_zero] at hst
  simp [Builtin.copy_, run_underlying hu, hlen, hn, he, hf, hst]
theorem cells_first {P : Program} (w : World) (n b o len cap : Nat) (A : Array Value) (eA : TypeId) (frA : Nat × Nat) (hb : w.heap[b]? = some (.cells A eA frA)) (vs : List Value) (hv : vs = (A.toList.drop o).take n) (hl : o + n ≤ A.size) :
    (Builtin.firstCells 1 n (.slice (some ⟨b, o, none⟩) len cap)).run P w = .ok vs.toArray w := by
  refine run_firstCells_some w 1 n ⟨b, o, none⟩ len cap vs (by rw [hv]; simp; omega) fun j u hu => ?_
  rw [Addr.add_lit, cell_of_heap hb]
  rw [hv, List.getElem?_take] at hu
  split at hu
  · rw [List.getElem?_drop] at hu; simpa using hu
  · cases hu

theorem frozen_no {w : World} {b j : Nat} {cs : Array Value} {e : TypeId} {fr : Nat × Nat} {n : Nat} (h : w.heap[b]? = some (.cells cs e fr)) (ht : Thaw fr n) (hj : j < n) : w.frozen? ⟨b, j, none⟩ = false := by
  have := ht.2 j hj
  simp only [World.frozen?, h]
  rw [Bool.eq_false_iff]
  intro h'
  simp only [Bool.and_eq_true, decide_eq_true_eq] at h'
  exact this h'
theorem shape_of {w : World} {b : Nat} {cs : Array Value} {e : TypeId} {fr : Nat × Nat} (h : w.heap[b]? = some (.cells cs e fr)) : w.shape? b = some (e, cs.size) := by simp [World.shape?, h]

theorem lst13 {α : Type} (L : List α) (h : 14 ≤ L.length) (x : α) :
    (L.take 7 ++ (L.drop 6).take 7 ++ L.drop (7 + 7)).toArray.toList.take 6 ++ [x] ++ (L.take 7 ++ (L.drop 6).take 7 ++ L.drop (7 + 7)).toArray.toList.drop (6 + [x].length) = L.take 6 ++ [x] ++ (L.take 13).drop 6 ++ L.drop 14 := by
  have e1 : (L.drop 6).take 7 = (L.take 13).drop 6 := by rw [List.drop_take]
  have e7 : L.take 7 = L.take 6 ++ [L[6]] := List.take_succ_eq_append_getElem (by omega)
  have hP : (L.take 6).length = 6 := by simp; omega
  rw [e1, e7]
  simp only [Nat.reduceAdd, List.length_singleton]
  generalize L.take 6 = P at *
  generalize (L.take 13).drop 6 = Q at *
  generalize L.drop 14 = R at *
  have g1 : (P ++ [L[6]] ++ Q ++ R).take 6 = P := by
    rw [List.append_assoc, List.append_assoc]; exact List.take_left' hP
  have g2 : (P ++ [L[6]] ++ Q ++ R).drop 7 = Q ++ R := by
    rw [List.append_assoc (P ++ [L[6]])]; exact List.drop_left' (by simp [hP])
  rw [g1, g2]; simp

theorem ptrSz : ∀ w, (Go.sizeOf 55).run Try.prog w = .ok 1 w := fun w => by
    have : (Try.prog.info? 55).map (·.size) = some 1 := by kernel_rfl
    cases hq : Try.prog.info? 55 with
    | none => rw [hq] at this; cases this
    | some i => rw [hq] at this; simp at this; simp [sizeOf, typeInfo, hq, this]

set_option maxHeartbeats 4000000 in
set_option maxRecDepth 100000 in
theorem ins_room (w : World) (b vb c vc : Nat) (A V : Array Value) (eA eV : TypeId) (frA frV : Nat × Nat) (x : Value) (hb : w.heap[b]? = some (.cells A eA frA)) (hv : w.heap[vb]? = some (.cells V eV frV)) (hne : vb ≠ b)
    (hA : Thaw frA (A.size + 1)) (hV : Thaw frV (V.size + 1)) (hc : 14 ≤ c) (hcA : c ≤ A.size) (hx : V.toList.take 1 = [x]) (ho : ∀ u ∈ A.toList.take 13, oc u = true) (hox : oc x = true) (hcm : c ≤ 9223372036854775807) :
    Calls Try.prog 48 #[.slice (some ⟨b, 0, none⟩) 13 c, .int .i64 6, .slice (some ⟨vb, 0, none⟩) 1 vc] w fun e w' =>
      e = .returned (.slice (some ⟨b, 0, none⟩) 14 c) ∧ w' = setBlk w.drew b (.cells (A.toList.take 6 ++ [x] ++ (A.toList.take 13).drop 6 ++ A.toList.drop 14).toArray eA frA) := by
  have hu : Try.prog.underlying 52 = some (.slice 55) := Try.underlying52
  have hVs : 1 ≤ V.size := by
    have := congrArg List.length hx
    simp at this; omega
  have hlt := (Array.getElem?_eq_some_iff.1 hb).1
  have hov : ∀ lb cb, (callFunc 73 #[.slice (some ⟨vb, 0, none⟩) 1 vc, .slice (some ⟨b, 7, none⟩) lb cb]).run Try.prog w = .ok (.value (.bool false)) w := fun lb cb => by
    rw [run_callFunc_extern Try.func73 (by kernel_rfl) (by kernel_rfl) (by kernel_rfl) (e := Extern.SlicesOverlaps.overlaps #[52, 52] #[4]) (by kernel_rfl),
      Lib.run_overlaps_apart w 52 4 55 hu 1 ptrSz ⟨vb, 0, none⟩ ⟨b, 7, none⟩ 1 vc lb cb hne eV eA V.size A.size (shape_of hv) (shape_of hb) (by omega) (frozen_no hv hV (by omega)) (frozen_no hv hV (by omega))]
    rfl
  -- the first copy: the tail moves by one
  have hbd : w.drew.heap[b]? = some (.cells A eA frA) := hb
  have hl7 : ((A.toList.drop 6).take 7).length = 7 := by simp; omega
  have hoc7 : ∀ u ∈ (A.toList.drop 6).take 7, oc u = true := fun u hu => ho u (by
    have : (A.toList.drop 6).take 7 = (A.toList.take 13).drop 6 := by rw [List.drop_take]
    rw [this] at hu; exact List.mem_of_mem_drop hu)
  obtain ⟨A1, hA1⟩ : ∃ A1, A1 = (A.toList.take 7 ++ (A.toList.drop 6).take 7 ++ A.toList.drop (7 + ((A.toList.drop 6).take 7).length)).toArray := ⟨_, rfl⟩
  have hA1s : A1.size = A.size := by rw [hA1]; simp; omega
  have hcp1 : ∀ ty dc sc, (Builtin.copy_ #[52, 52] ty #[.slice (some ⟨b, 7, none⟩) 7 dc, .slice (some ⟨b, 6, none⟩) 8 sc]).run Try.prog w.drew = .ok (goInt 7) (setBlk w.drew b (.cells A1 eA frA)) := fun ty dc sc => by
    rw [hA1]
    exact run_copyB w.drew _ _ ty 55 b 7 7 dc 1 7 8 A eA frA _ _ hu (ptrSz _) (by simp [Builtin.lenOf]) (by decide) (cells_first w.drew 7 b 6 8 sc A eA frA hbd _ rfl (by omega)) hbd (hA.mono (by omega)) (by rw [hl7]; omega) hoc7
  obtain ⟨W1, hW1⟩ : ∃ W1, W1 = setBlk w.drew b (.cells A1 eA frA) := ⟨_, rfl⟩
  rw [← hW1] at hcp1
  have hb1 : W1.heap[b]? = some (.cells A1 eA frA) := by rw [hW1]; exact setBlk_get hlt
  have hv1 : W1.heap[vb]? = some (.cells V eV frV) := by
    rw [hW1]; simp only [setBlk, Array.getElem?_setIfInBounds]; rw [if_neg (fun e => hne e.symm)]; exact hv
  have hcp2 : ∀ ty dc, (Builtin.copy_ #[52, 52] ty #[.slice (some ⟨b, 6, none⟩) 8 dc, .slice (some ⟨vb, 0, none⟩) 1 vc]).run Try.prog W1 = .ok (goInt 1) (setBlk W1 b (.cells (A1.toList.take 6 ++ [x] ++ A1.toList.drop (6 + [x].length)).toArray eA frA)) := fun ty dc =>
    run_copyB W1 _ _ ty 55 b 6 8 dc 1 1 1 A1 eA frA _ [x] hu (ptrSz _) (by simp [Builtin.lenOf]) (by decide) (cells_first W1 1 vb 0 1 vc V eV frV hv1 [x] (by simpa using hx.symm) (by omega)) hb1 (hA.mono (by omega)) (by simp; omega) (by simpa using hox)
  obtain ⟨W2, hW2⟩ : ∃ W2, W2 = setBlk W1 b (.cells (A1.toList.take 6 ++ [x] ++ A1.toList.drop (6 + [x].length)).toArray eA frA) := ⟨_, rfl⟩
  rw [← hW2] at hcp2
  have hfin : W2 = setBlk w.drew b (.cells (A.toList.take 6 ++ [x] ++ (A.toList.take 13).drop 6 ++ A.toList.drop 14).toArray eA frA) := by
    rw [hW2, hW1, setBlk_setBlk]
    congr 2
    rw [hA1, hl7]
    congr 1
    exact lst13 A.toList (by simp; omega) x
  rw [← hfin]
  clear hfin hb1 hv1 hW2 hW1 hA1s hA1 hbd hl7 hoc7 hx ho hox
  have mixed := hP
  have hw7 : IntKind.i64.wrap 7 = 7 := by decide
  have hb2 : ¬ (c = 7) := by omega
  have hb4 : ¬ (c = 6) := by omega
  have hcI : ¬ ((c : Int) < 14) := by omega
  have hcI2 : (14 : Int) ≤ (c : Int) := by omega
  go_enter Try.func48, Try.ntmps48
  go_wp2_with (simp only [hov])
  go_region_law_o (refine step_copy_runI rfl _ _ 52 52 rfl (.slice (some ⟨b, 7, none⟩) 7 (c - 7)) (.slice (some ⟨b, 6, none⟩) 8 (c - 6)) (by simp [Act.eval, Act.put]) (by simp [Act.eval, Act.put]) (hcp1 _ _ _) ?_)
  go_wp2_with (at_builtin; refine wpList_copy_runI _ rfl _ _ 52 52 rfl _ _ rfl rfl (hcp2 _ _) ?_)
  go_ret
  exact ⟨rfl, rfl⟩

theorem setBlk_wpush (w : World) (o o' : Obj) : setBlk (wpush w o) w.heap.size o' = wpush w o' := by
  unfold setBlk wpush
  simp only
  congr 1
  apply Array.ext_getElem?
  intro i
  rw [Array.getElem?_setIfInBounds, Array.getElem?_push, Array.getElem?_push]
  by_cases hi : i = w.heap.size
  · subst hi; simp
  · rw [if_neg (Ne.symm hi), if_neg hi, if_neg hi]

set_option maxHeartbeats 4000000 in
set_option maxRecDepth 100000 in
theorem ins_grow (w : World) (b vb c vc : Nat) (A V : Array Value) (eA eV : TypeId) (frA frV : Nat × Nat) (x : Value) (hb : w.heap[b]? = some (.cells A eA frA)) (hv : w.heap[vb]? = some (.cells V eV frV))
    (hc : 13 ≤ c) (hc' : c < 14) (hcA : c ≤ A.size) (hx : V.toList.take 1 = [x]) (ho : ∀ u ∈ A.toList.take 13, oc u = true) (hox : oc x = true) :
    Calls Try.prog 48 #[.slice (some ⟨b, 0, none⟩) 13 c, .int .i64 6, .slice (some ⟨vb, 0, none⟩) 1 vc] w fun e w' =>
      ∃ (G : Nat) (F : Array Value) (Z : List Value), 14 ≤ G ∧ G ≤ maxLen ∧ F.size = G ∧ F.toList = A.toList.take 6 ++ [x] ++ (A.toList.take 13).drop 6 ++ Z ∧ e = .returned (.slice (some ⟨w.heap.size, 0, none⟩) 14 G) ∧ w' = wpush w.drew.drew (.cells F 55) := by
  have hu : Try.prog.underlying 52 = some (.slice 55) := Try.underlying52
  obtain ⟨ti, hi, hi1, hi2, hi3⟩ : ∃ ti, Try.prog.info? 55 = some ti ∧ ti.size = 1 ∧ ti.bytes = 8 ∧ ti.zero = some (.pointer none) := by
    have h1 : (Try.prog.info? 55).map (·.size) = some 1 := by kernel_rfl
    have h2 : (Try.prog.info? 55).map (·.bytes) = some 8 := by kernel_rfl
    have h3 : (Try.prog.info? 55).bind (·.zero) = some (.pointer none) := by kernel_rfl
    cases hq : Try.prog.info? 55 with
    | none => rw [hq] at h1; cases h1
    | some i => rw [hq] at h1 h2 h3; simp at h1 h2 h3; exact ⟨i, rfl, h1, h2, h3⟩
  have hVs : 1 ≤ V.size := by
    have := congrArg List.length hx
    simp at this; omega
  have hlt := (Array.getElem?_eq_some_iff.1 hb).1
  have hltv := (Array.getElem?_eq_some_iff.1 hv).1
  have hu3 : Try.prog.underlying 3 = some (.int .i64) := Try.underlying3
  have hG := grownCap_ge w 14 c 55
  have hGm := grownCap_le_maxLen w 14 c 55 (by unfold maxLen; omega)
  have hap := Lib.run_append_grow_zeros (P := Try.prog) w 52 3 52 55 ti (.pointer none) .i64 .i64 hu hu3 hi hi3 (some ⟨b, 0, none⟩) 6 c (A.toList.take 6)
    (by rw [hi1]; exact cells_first w.drew 6 b 0 6 c A eA frA hb _ (by simp) (by omega)) 8 (by omega) (by omega) (by omega) (by omega) (by rw [hi2]; omega) (by rw [hi2]; exact growslice_fits (by omega) (by omega))
  obtain ⟨G, hGd⟩ : ∃ G, G = grownCap w 14 c 55 := ⟨_, rfl⟩
  obtain ⟨R0, hR0⟩ : ∃ R0 : Array Value, R0 = (A.toList.take 6).toArray ++ Builtin.zeroCells (Value.pointer none).cells 8 ++ Builtin.zeroCells (Value.pointer none).cells (G - 14) := ⟨_, rfl⟩
  have hap : ∀ ty, (Builtin.append_ #[52, 3] ty #[.slice (some ⟨b, 0, none⟩) 6 c, .int .i64 8]).run Try.prog w = .ok (.slice (some ⟨w.heap.size, 0, none⟩) 14 G) (wpush w.drew (.cells R0 55)) := fun ty => by
    rw [hR0, hGd]; exact hap
  rw [← hGd] at hG hGm
  have hsz0 : R0.size = G := by
    rw [hR0]; simp [Builtin.zeroCells, Value.cells]; omega
  have htk6 : R0.toList.take 6 = A.toList.take 6 := by
    rw [hR0]
    simp only [Array.toList_append]
    rw [List.append_assoc, List.take_left' (by simp; omega)]
  clear hR0 hGd
  have hbN : b ≠ w.heap.size := by omega
  have hvN : vb ≠ w.heap.size := by omega
  obtain ⟨W1, hW1⟩ : ∃ W1, W1 = wpush w.drew (.cells R0 55) := ⟨_, rfl⟩
  rw [← hW1] at hap
  have hb1 : W1.heap[b]? = some (.cells A eA frA) := by rw [hW1]; show (w.heap.push _)[b]? = _; rw [heap_push_old _ _ hlt]; exact hb
  have hv1 : W1.heap[vb]? = some (.cells V eV frV) := by rw [hW1]; show (w.heap.push _)[vb]? = _; rw [heap_push_old _ _ hltv]; exact hv
  have hn1 : W1.heap[w.heap.size]? = some (.cells R0 55 (0, 0)) := by rw [hW1]; exact wpush_get _ _
  obtain ⟨R1, hR1⟩ : ∃ R1, R1 = (R0.toList.take 6 ++ [x] ++ R0.toList.drop (6 + [x].length)).toArray := ⟨_, rfl⟩
  have hs1 : R1.size = G := by rw [hR1]; simp; omega
  obtain ⟨W2, hW2⟩ : ∃ W2, W2 = setBlk W1 w.heap.size (.cells R1 55 (0, 0)) := ⟨_, rfl⟩
  have hcp1 : ∀ ty dc, (Builtin.copy_ #[52, 52] ty #[.slice (some ⟨w.heap.size, 6, none⟩) 8 dc, .slice (some ⟨vb, 0, none⟩) 1 vc]).run Try.prog W1 = .ok (goInt 1) W2 := fun ty dc => by
    rw [hW2, hR1]
    exact run_copyB W1 _ _ ty 55 w.heap.size 6 8 dc 1 1 1 R0 _ (0, 0) _ [x] hu (ptrSz _) (by simp [Builtin.lenOf]) (by decide) (cells_first W1 1 vb 0 1 vc V eV frV hv1 [x] (by simpa using hx.symm) (by omega)) hn1 (Thaw_zero _) (by simp; omega) (by simpa using hox)
  have hW2' : W2 = wpush w.drew (.cells R1 55) := by rw [hW2, hW1]; exact setBlk_wpush w.drew _ _
  have hb2 : W2.drew.heap[b]? = some (.cells A eA frA) := by rw [hW2']; show (w.heap.push _)[b]? = _; rw [heap_push_old _ _ hlt]; exact hb
  have hn2 : W2.drew.heap[w.heap.size]? = some (.cells R1 55 (0, 0)) := by rw [hW2']; exact wpush_get _ _
  have hl7 : ((A.toList.drop 6).take 7).length = 7 := by simp; omega
  have e67 : (A.toList.drop 6).take 7 = (A.toList.take 13).drop 6 := by rw [List.drop_take]
  obtain ⟨R2, hR2⟩ : ∃ R2, R2 = (R1.toList.take 7 ++ (A.toList.drop 6).take 7 ++ R1.toList.drop (7 + ((A.toList.drop 6).take 7).length)).toArray := ⟨_, rfl⟩
  have hs2 : R2.size = G := by rw [hR2]; simp; omega
  obtain ⟨W3, hW3⟩ : ∃ W3, W3 = setBlk W2.drew w.heap.size (.cells R2 55 (0, 0)) := ⟨_, rfl⟩
  have hcp2 : ∀ ty dc sc, (Builtin.copy_ #[52, 52] ty #[.slice (some ⟨w.heap.size, 7, none⟩) 7 dc, .slice (some ⟨b, 6, none⟩) 7 sc]).run Try.prog W2.drew = .ok (goInt 7) W3 := fun ty dc sc => by
    rw [hW3, hR2]
    exact run_copyB W2.drew _ _ ty 55 w.heap.size 7 7 dc 1 7 7 R1 _ (0, 0) _ _ hu (ptrSz _) (by simp [Builtin.lenOf]) (by decide) (cells_first W2.drew 7 b 6 7 sc A eA frA hb2 _ rfl (by omega)) hn2 (Thaw_zero _) (by rw [hl7]; omega) (fun u hu' => ho u (by rw [e67] at hu'; exact List.mem_of_mem_drop hu'))
  have hW3' : W3 = wpush w.drew.drew (.cells R2 55) := by rw [hW3, hW2']; exact setBlk_wpush w.drew.drew _ _
  have hR2l : R2.toList = A.toList.take 6 ++ [x] ++ (A.toList.take 13).drop 6 ++ R1.toList.drop 14 := by
    have hP : (A.toList.take 6).length = 6 := by simp; omega
    have h1 : R1.toList.take 7 = A.toList.take 6 ++ [x] := by
      rw [hR1, htk6]
      simp only
      exact List.take_left' (by simp; omega)
    rw [hR2, hl7, h1, e67]
  have hwin : ∀ e w', e = Ending.returned (.slice (some ⟨w.heap.size, 0, none⟩) 14 G) → w' = W3 → ∃ (G : Nat) (F : Array Value) (Z : List Value), 14 ≤ G ∧ G ≤ maxLen ∧ F.size = G ∧ F.toList = A.toList.take 6 ++ [x] ++ (A.toList.take 13).drop 6 ++ Z ∧ e = .returned (.slice (some ⟨w.heap.size, 0, none⟩) 14 G) ∧ w' = wpush w.drew.drew (.cells F 55) :=
    fun e w' h1 h2 => ⟨G, R2, _, hG, hGm, hs2, hR2l, h1, h2.trans hW3'⟩
  refine Calls.mono (R := fun e w' => e = .returned (.slice (some ⟨w.heap.size, 0, none⟩) 14 G) ∧ w' = W3) ?_ fun e w' h => hwin e w' h.1 h.2
  have hG63 : G ≤ 9223372036854775807 := by unfold maxLen at hGm; omega
  clear hwin hR2l hW3' hW3 hs2 hR2 e67 hl7 hn2 hb2 hW2' hW2 hs1 hR1 hn1 hv1 hb1 hW1 htk6 hsz0 hGm hi hi1 hi2 hi3 ho hox hx
  have mixed := hP
  have hw7 : IntKind.i64.wrap 7 = 7 := by decide
  have hg6 : ¬ (G = 6) := by omega
  have hg7 : ¬ (G = 7) := by omega
  have hc6 : ¬ (c = 6) := by omega
  have hc7 : ¬ (c = 7) := by omega
  have hcI : ((c : Int) < 14) := by omega
  go_enter Try.func48, Try.ntmps48
  go_wp2_with (first
    | (at_builtin; refine Lib.wpList_append_run _ rfl _ _ _ _ rfl _ _ rfl rfl _ _ (hap _) ?_)
    | (at_builtin; refine wpList_copy_runI _ rfl _ _ 52 52 rfl _ _ rfl rfl (hcp1 _ _) ?_))
  go_region_law_o (refine step_copy_runI rfl _ _ 52 52 rfl (.slice (some ⟨w.heap.size, 7, none⟩) 7 (G - 7)) (.slice (some ⟨b, 6, none⟩) 7 (c - 6)) (by simp [Act.eval, Act.put]) (by simp [Act.eval, Act.put]) (hcp2 _ _ _) ?_)
  go_wp2
  go_ret
  exact ⟨rfl, rfl⟩

theorem newF (w : World) (o : Obj) : (wpush w o).heap.size = w.heap.size + 1 := by simp [wpush]

theorem kill2_rows (nt ps : List PV) (r : Row) : upd (upd (upd (lrows [.box nt, .box ps, .box [.d (.lit (.pointer none))]]) 1 .dead) 2 .dead) 3 r = lrows [.box nt, .dead, .dead, r] := by
  funext i
  simp only [upd]
  match i with
  | 0 => rfl
  | 1 => rfl
  | 2 => rfl
  | 3 => rfl
  | i + 4 => simp [lrows]

/-- slices.Insert(out, 6, nil), out of thirteen pointers -/
theorem insNil (nt ps : List PV) (hps : ps.length = 13) :
    AFun Try.prog 48 [.own 1, int 6, .own 2] [.box nt, .box ps, .box [.d (.lit (.pointer none))]] (.own 3) [.box nt, .dead, .dead, .box (ps.take 6 ++ [.d (.lit (.pointer none))] ++ ps.drop 6)] := by
  intro B β X w vs hkl hr0 hm hp
  have hnx : ([.box nt, .box ps, .box [.d (.lit (.pointer none))]] : List Row).length = 3 := rfl
  rw [hnx] at hm
  unfold repPs at hp
  obtain ⟨v0, vs0, rfl, h0, hp⟩ := hp
  unfold repPs at hp
  obtain ⟨v1, vs1, rfl, h1, hp⟩ := hp
  unfold repPs at hp
  obtain ⟨v2, vs2, rfl, h2, hp⟩ := hp
  unfold repPs at hp
  subst hp
  have h1 : v1 = .int .i64 6 := by simpa [int, repP, rep] using h1
  subst h1
  unfold repP at h0 h2
  obtain ⟨hc0, hv0⟩ := h0.2 ps rfl
  obtain ⟨hc1, hv1⟩ := h2.2 [.d (.lit (.pointer none))] rfl
  have r0 := hm.ok 1
  have r1 := hm.ok 2
  obtain ⟨b, A, eA, frA, a1, a2, a3, a4, a5, a6, a7, a8⟩ := r0
  obtain ⟨vb, V, eV, frV, b1, b2, b3, b4, b5, b6, b7, b8⟩ := r1
  rw [hps] at hc0 hv0 a5 a6
  rw [a1] at hv0
  rw [b1] at hv1
  simp only [List.length_singleton] at hc1 hv1 b5 b6
  subst hv0; subst hv1
  have hsc : Scs (· < 3) ps := hm.scr 1 ps rfl
  have hblk0 : rblk (β 1) (lrows [.box nt, .box ps, .box [.d (.lit (.pointer none))]] 1) = some b := by simp [lrows, rblk, a1]
  have hblk1 : rblk (β 2) (lrows [.box nt, .box ps, .box [.d (.lit (.pointer none))]] 2) = some vb := by simp [lrows, rblk, b1]
  have hne : vb ≠ b := fun e => by
    subst e
    have := hm.inj 1 2 vb hblk0 hblk1
    omega
  have hxv : V.toList.take 1 = [.pointer none] := by
    unfold repPs at b5
    obtain ⟨u, us, e, g1, g2⟩ := b5
    unfold repPs at g2
    rw [e, g2]
    have : u = .pointer none := by simpa [repP, rep] using g1
    rw [this]
  have hAs : 13 ≤ A.size := by
    have := repPs_length a5
    rw [hps] at this; simp at this; omega
  have hlt := (Array.getElem?_eq_some_iff.1 a3).1
  have hm1 := (hm.kill 1).kill 2
  have hCk : ∀ i, i < 3 → RowC (lrows [.box nt, .box ps, .box [.d (.lit (.pointer none))]] i) (upd (upd (lrows [.box nt, .box ps, .box [.d (.lit (.pointer none))]]) 1 .dead) 2 .dead i) ∧ (upd (upd (lrows [.box nt, .box ps, .box [.d (.lit (.pointer none))]]) 1 .dead) 2 .dead i ≠ .dead → β i = β i) := fun i hi => by
    refine ⟨?_, fun _ => rfl⟩
    match i, hi with
    | 0, _ => exact RowC.refl _
    | 1, _ => simp [upd, lrows, RowC]
    | 2, _ => simp [upd, lrows, RowC]
  have hnew : ∀ {us : List Value}, us = A.toList.take 13 → repPs (lrows [.box nt, .box ps, .box [.d (.lit (.pointer none))]]) β w X (ps.take 6 ++ [.d (.lit (.pointer none))] ++ ps.drop 6) (us.take 6 ++ [.pointer none] ++ us.drop 6) := fun {us} hus => by
    rw [← hus] at a5
    refine repPs_append (repPs_append (repPs_take 6 a5) ?_) (repPs_drop 6 a5)
    unfold repPs
    exact ⟨.pointer none, [], rfl, by simp [repP, rep], by simp [repPs]⟩
  have hnsc : Scs (· < 3) (ps.take 6 ++ [.d (.lit (.pointer none))] ++ ps.drop 6) := Scs.append (Scs.append (hsc.take 6) ⟨trivial, trivial⟩) (hsc.drop 6)
  have hnl : (ps.take 6 ++ [PV.d (.lit (.pointer none))] ++ ps.drop 6).length = 14 := by simp; omega
  generalize ps.take 6 ++ [PV.d (.lit (.pointer none))] ++ ps.drop 6 = NP at *
  have h13 : (A.toList.take 13).take 6 = A.toList.take 6 := by rw [List.take_take]; rfl
  have hl13 : (A.toList.take 13).length = 13 := by simp; omega
  have hP6 : (A.toList.take 6).length = 6 := by simp; omega
  have hD6 : ((A.toList.take 13).drop 6).length = 7 := by rw [List.length_drop, hl13]
  have hocN : ∀ u ∈ A.toList.take 6 ++ [.pointer none] ++ (A.toList.take 13).drop 6, oc u = true := fun u hu => by
    simp only [List.mem_append, List.mem_singleton] at hu
    rcases hu with (hu | rfl) | hu
    · exact a6 u (by rw [← h13] at hu; exact List.mem_of_mem_take hu)
    · rfl
    · exact a6 u (List.mem_of_mem_drop hu)
  have hnew0 := hnew rfl
  rw [h13] at hnew0
  by_cases hfit : 14 ≤ (β 1).cap
  · refine (ins_room w b vb (β 1).cap (β 2).cap A V eA eV frA frV (.pointer none) a3 b3 hne a4 b4 hfit a7 hxv a6 rfl (by unfold maxLen at a8; omega)).mono ?_
    rintro e w' ⟨rfl, rfl⟩
    have hm2 := hm1.drew (w' := w.drew) rfl rfl rfl rfl
    have hkeep : ∀ o', KeepX w X (setBlk w.drew b o') X := fun o' c _ hx => ⟨by
      simp only [setBlk, Array.getElem?_setIfInBounds]; rw [if_neg (fun e => hx (by subst e; exact a2))]; rfl, hx⟩
    have hCn : ∀ q, q < 3 → RowC (lrows [.box nt, .box ps, .box [.d (.lit (.pointer none))]] q) (upd (upd (upd (lrows [.box nt, .box ps, .box [.d (.lit (.pointer none))]]) 1 .dead) 2 .dead) 3 (.box NP) q) ∧ (upd (upd (upd (lrows [.box nt, .box ps, .box [.d (.lit (.pointer none))]]) 1 .dead) 2 .dead) 3 (.box NP) q ≠ .dead → upd β 3 ⟨some ⟨b, 0, none⟩, (β 1).cap⟩ q = β q) := fun q hq => by
      rw [upd_ne _ _ (show q ≠ 3 by omega), upd_ne β _ (show q ≠ 3 by omega)]; exact hCk q hq
    have htk : List.take NP.length (A.toList.take 6 ++ [Value.pointer none] ++ (A.toList.take 13).drop 6 ++ A.toList.drop 14) = A.toList.take 6 ++ [.pointer none] ++ (A.toList.take 13).drop 6 := by
      rw [hnl]; exact List.take_left' (by simp only [List.length_append, hP6, hD6, List.length_singleton])
    have hadopt := hm2.adopt b (.cells (A.toList.take 6 ++ [Value.pointer none] ++ (A.toList.take 13).drop 6 ++ A.toList.drop 14).toArray eA frA) ⟨some ⟨b, 0, none⟩, (β 1).cap⟩ (.box NP)
      a2 hlt (fun q hq => by
        match q with
        | 0 =>
          have h00 : rblk (β 0) (lrows [.box nt, .box ps, .box [.d (.lit (.pointer none))]] 0) = some b := hq
          have := hm.inj 0 1 b h00 hblk0
          omega
        | 1 => simp [upd, rblk] at hq
        | 2 => simp [upd, rblk] at hq
        | q + 3 => simp [upd, lrows, rblk] at hq) (fun h0 => hm.lent 1 b hblk0 h0)
      (by
        have hsz : (A.toList.take 6 ++ [Value.pointer none] ++ (A.toList.take 13).drop 6 ++ A.toList.drop 14).toArray.size = A.size := by simp only [List.size_toArray, List.length_append, hP6, hD6, List.length_singleton, List.length_drop, Array.length_toList]; omega
        refine ⟨b, _, eA, frA, rfl, a2, setBlk_get hlt, ?_, ?_, ?_, by rw [hsz]; exact a7, a8⟩
        · rw [hsz]; exact a4
        · show repPs _ _ _ _ NP (List.take NP.length (A.toList.take 6 ++ [Value.pointer none] ++ (A.toList.take 13).drop 6 ++ A.toList.drop 14))
          rw [htk]; exact repPs_mono (hkeep _) hCn _ _ hnsc hnew0
        · show ∀ u ∈ List.take NP.length (A.toList.take 6 ++ [Value.pointer none] ++ (A.toList.take 13).drop 6 ++ A.toList.drop 14), _
          rw [htk]; exact hocN)
      (by simp [rblk]) (fun c hc => by cases hc; exact hnsc)
    rw [kill2_rows] at hadopt
    refine ⟨_, _, X, rfl, hadopt.1, ?_, by show 3 < 4; omega⟩
    unfold repP
    refine ⟨fun sz el hel => (by cases hel), fun c hc => ?_⟩
    cases hc
    rw [hnl]
    exact ⟨by rw [upd_same]; exact hfit, by rw [upd_same]⟩
  · refine (ins_grow w b vb (β 1).cap (β 2).cap A V eA eV frA frV (.pointer none) a3 b3 hc0 (by omega) a7 hxv a6 rfl).mono ?_
    rintro e w' ⟨G, F, Z, hG, hGm, hFs, hF, rfl, rfl⟩
    have hm2 := hm1.drew (w' := w.drew.drew) rfl rfl rfl rfl
    have htk : F.toList.take NP.length = A.toList.take 6 ++ [.pointer none] ++ (A.toList.take 13).drop 6 := by
      rw [hF, hnl]; exact List.take_left' (by simp only [List.length_append, hP6, hD6, List.length_singleton])
    obtain ⟨β', q1, _, q2, q3⟩ := hm2.pbox 55 G (cs := F) (ps := NP)
      (by rw [htk]; exact repPs_mono (KeepX.heap (w := w) (w' := w.drew.drew) rfl) hCk _ _ hnsc hnew0) (by rw [htk]; exact hocN) hnsc (by omega) hGm
    have q2 := q2 (by omega)
    rw [kill2_rows] at q1 q2
    rw [hnl] at q2
    exact ⟨_, β', _, rfl, q1, q2, by show 3 < 4; omega⟩
end Go.Proofs.Ytflpphgccjlkjaa

set_option linter.unusedSimpArgs false
set_option linter.unusedVariables false
namespace Go.Proofs.Ytflpphgccjlkjaa
open Go Go.AM

abbrev nilP : PV := .d (.lit (.pointer none))
/-- where a note's numbers are -/
def nums : List PV := [.ptr 0 1, .ptr 0 2, .ptr 0 3, .ptr 0 4, .ptr 0 5, .ptr 0 6, nilP, .ptr 0 8, .ptr 0 9, .ptr 0 10, .ptr 0 11, .ptr 0 12, .ptr 0 13, .ptr 0 14]
def lead6 : List PV := [.ptr 0 1, .ptr 0 2, .ptr 0 3, .ptr 0 4, .ptr 0 5, .ptr 0 6]
def lvs (i : Nat) : List PV := (List.range i).map fun j => .ptr 0 (8 + j)
theorem lvs_succ (i : Nat) : lead6 ++ lvs i ++ [.ptr 0 (8 + i)] = lead6 ++ lvs (i + 1) := by
  unfold lvs
  rw [List.range_succ, List.map_append, List.append_assoc]; rfl
theorem lvs_len (i : Nat) : (lead6 ++ lvs i).length = 6 + i := by simp [lead6, lvs]; omega
theorem scBs_lvs (n : Nat) (hn : 0 < n) : ∀ l : List Nat, scBs n (l.map fun j => PV.ptr 0 (8 + j)) = true
  | [] => rfl
  | a :: l => by simp only [List.map_cons, scBs, scB, scBs_lvs n hn l, Bool.and_true, decide_eq_true_eq]; exact hn
theorem scBs_app (n : Nat) : ∀ a b : List PV, scBs n (a ++ b) = (scBs n a && scBs n b)
  | [], b => by simp [scBs]
  | p :: a, b => by simp only [List.cons_append, scBs, scBs_app n a b, Bool.and_assoc]
theorem rens_lvs (σ : Nat → Nat) (h : σ 0 = 0) (i : Nat) : rens σ (lead6 ++ lvs i) = lead6 ++ lvs i := by
  have aux : ∀ l : List Nat, rens σ (l.map fun j => PV.ptr 0 (8 + j)) = l.map fun j => PV.ptr 0 (8 + j) := by
    intro l
    induction l with
    | nil => rfl
    | cons a l ih => simp only [List.map_cons, rens, ren, h, ih]
  simp only [lead6, List.cons_append, List.nil_append, rens, ren, h]
  unfold lvs
  rw [aux]
theorem frzs_lvs (rows : AM.Rows) (F : List Nat) (h : 0 ∉ F) (i : Nat) : frzs rows F (lead6 ++ lvs i) = lead6 ++ lvs i := by
  have aux : ∀ l : List Nat, frzs rows F (l.map fun j => PV.ptr 0 (8 + j)) = l.map fun j => PV.ptr 0 (8 + j) := by
    intro l
    induction l with
    | nil => rfl
    | cons a l ih => simp only [List.map_cons, frzs, frz, h, if_false, ih]
  simp only [lead6, List.cons_append, List.nil_append, frzs, frz, h, if_false]
  unfold lvs
  rw [aux]

theorem box_lvs (rows : AM.Rows) (F ρ : List Nat) {i : Nat} (h : 0 ∉ F) (hρ : ρ.getD 0 0 = 0) : frzRow rows F (.box (lead6 ++ lvs i)) = renRow (fun i => ρ.getD i 0) (.box (lead6 ++ lvs i)) := by
  simp only [frzRow, renRow, frzs_lvs rows F h]
  rw [rens_lvs (fun i => ρ.getD i 0) hρ]

/-- a note's cells -/
def bxN (c : Fin 16 → DV) : Row := .box [.d (c 0), .d (c 1), .d (c 2), .d (c 3), .d (c 4), .d (c 5), .d (c 6), .d (c 7), .d (c 8), .d (c 9), .d (c 10), .d (c 11), .d (c 12), .d (c 13), .d (c 14), .d (c 15)]
theorem scr_lvs (c : Fin 16 → DV) (i : Nat) : ([bxN c, .box (lead6 ++ lvs i)].all (scRow 2)) = true := by
  simp only [List.all_cons, List.all_nil, Bool.and_true, scRow, bxN, scBs, scB, Bool.true_and, scBs_app]
  unfold lvs
  rw [scBs_lvs 2 (by decide)]; rfl

set_option maxRecDepth 8000 in
set_option maxHeartbeats 2000000 in
theorem noteNumbers (c : Fin 16 → DV) : AFun Try.prog 23 [.ptr 0 0] [bxN c] (.own 1) [bxN c, .box nums] := by
  refine AFun.of_walk hP Try.func23 rfl rfl rfl (by simp) rfl ?_
  simp only [Try.f23, bxN, am, simprocAttr, tys]
  refine ⟨by kernel_rfl, ?_⟩
  refine ALoopW.intro 43 1 (ι := { i : Nat // i ≤ 7 }) (fun i => [(0, .ptr 0 0), (3, .own 1), (4, int 6), (27, int i.1)]) (fun i => [bxN c, .box (lead6 ++ lvs i.1)]) (fun i => 7 - i.1) ⟨0, by omega⟩ [] [0, 1153] ?_ (fun ⟨i, hi⟩ => ?_)
  · exact ⟨rfl, rfl, by simp, (fun i hi => .inr ((by decide : ∀ i, i < 1 → ([0, 1153] : List Nat).getD i 0 = i) i hi)), ⟨.inr rfl, .inr rfl, .inr rfl, .inr rfl, trivial⟩, ⟨.inr ⟨by decide, rfl⟩, .inr ⟨by decide, rfl⟩, trivial⟩, rfl, by decide, rfl, scr_lvs c 0⟩
  simp only
  rcases Nat.lt_or_ge i 7 with hlt | hge
  · have hltI : ((i : Int) < 7) := by omega
    have e1 : IntKind.i64.wrap ((i : Int) + 1) = ((i + 1 : Nat) : Int) := by rw [IntWalk.i64_in _ (by omega)]; simp
    have hll := lvs_len i
    simp only [int, bxN, hltI, e1, Int.natCast_nonneg, Int.toNat_natCast, Nat.mul_one, hll, lvs_succ, am, simprocAttr, tys]
    refine ⟨by omega, ⟨i + 1, by omega⟩, [], [0, 3], ?_, by show 7 - (i + 1) < 7 - i; omega⟩
    exact ⟨rfl, rfl, by simp, (fun i hi => .inr ((by decide : ∀ i, i < 1 → ([0, 3] : List Nat).getD i 0 = i) i hi)), ⟨.inr rfl, .inr rfl, .inr rfl, .inr rfl, trivial⟩, ⟨.inr ⟨by decide, rfl⟩, .inr ⟨by decide, box_lvs _ _ _ (by decide) rfl⟩, trivial⟩, rfl, by decide, rfl, scr_lvs c (i + 1)⟩
  · have hltI : ¬ ((i : Int) < 7) := by omega
    obtain rfl : i = 7 := by omega
    simp only [int, bxN, hltI, am, simprocAttr, tys]
    refine ACall.of (insNil [.d (c 0), .d (c 1), .d (c 2), .d (c 3), .d (c 4), .d (c 5), .d (c 6), .d (c 7), .d (c 8), .d (c 9), .d (c 10), .d (c 11), .d (c 12), .d (c 13), .d (c 14), .d (c 15)] (lead6 ++ lvs 7) (lvs_len 7)) [0, 1, 2] [] rfl (by simp) (by simp) (by simp) (by repeat' (first | exact trivial | exact .inl rfl | exact .inr rfl | exact .inr ⟨rfl, rfl, rfl, by simp; done⟩ | exact .inr ⟨rfl, by simp; done⟩ | exact .inr ⟨rfl, rfl, by simp; done⟩ | apply And.intro)) (by repeat' (first | exact trivial | rfl | exact (tkC_ren.1 _ _).symm | (simp; done) | apply And.intro)) (by first | exact .inl rfl | (refine .inr ⟨trivial, ?_⟩; first | (intro row h; rcases List.mem_singleton.1 h with rfl; exact nvB _) | (intro row h; cases h; done) | (simp; done)) | (refine .inr ⟨by simp [nvP, nvP.nvPs, nvD, nilS, errno], ?_⟩; first | (intro row h; rcases List.mem_singleton.1 h with rfl; exact nvB _) | (intro row h; cases h; done) | (simp [nvRow, nvD, nvP]; done))) ?_
    simp only [FinR, evRes, evRVs, evRV, am, simprocAttr, tys]
    exact ⟨_, [], [0, 3], rfl, ⟨rfl, rfl, by simp, (fun i hi => .inr ((by decide : ∀ i, i < 1 → ([0, 3] : List Nat).getD i 0 = i) i hi)), trivial, ⟨.inr ⟨by decide, rfl⟩, .inr ⟨by decide, rfl⟩, trivial⟩, rfl, by decide, rfl, (by first | rfl | simp [scRow, tkC_scs])⟩, rfl, rfl⟩
theorem noteNumbersL (c : Fin 16 → DV) : AFun Try.prog 23 [.ptr 0 0] [.box [.d (c 0), .d (c 1), .d (c 2), .d (c 3), .d (c 4), .d (c 5), .d (c 6), .d (c 7), .d (c 8), .d (c 9), .d (c 10), .d (c 11), .d (c 12), .d (c 13), .d (c 14), .d (c 15)]] (.own 1) [.box [.d (c 0), .d (c 1), .d (c 2), .d (c 3), .d (c 4), .d (c 5), .d (c 6), .d (c 7), .d (c 8), .d (c 9), .d (c 10), .d (c 11), .d (c 12), .d (c 13), .d (c 14), .d (c 15)], .box nums] := noteNumbers c
end Go.Proofs.Ytflpphgccjlkjaa

set_option linter.unusedSimpArgs false
set_option linter.unusedVariables false
namespace Go.Proofs.Ytflpphgccjlkjaa
open Go Go.AM

/-! ## notes -/
abbrev EntT := Int × Int × OpT × Unit
def encE (e : EntT) : List DV := [.lit (.int .i64 e.1), .lit (.int .i64 e.2.1), .lit (.int .u8 e.2.2.1.1.toNat), .sl 2 (e.2.2.1.2.1.map encL), .lit (.int .i64 e.2.2.1.2.2.1.1), .lit (.int .i64 e.2.2.1.2.2.1.2.1), .sl 3 (e.2.2.1.2.2.2.1.map encA)]
structure NT where
  k : UInt8
  f : Int
  t : Int
  v : Int
  n : Int
  i : Int
  s : Int
  ld : Bool
  l0 : Int
  l1 : Int
  l2 : Int
  l3 : Int
  l4 : Int
  l5 : Int
  l6 : Int
  log : List EntT
def encN (x : NT) : List DV := [.lit (.int .u8 x.k.toNat), .lit (.int .i64 x.f), .lit (.int .i64 x.t), .lit (.int .i64 x.v), .lit (.int .i64 x.n), .lit (.int .i64 x.i), .lit (.int .i64 x.s), .lit (.bool x.ld),
  .lit (.int .i64 x.l0), .lit (.int .i64 x.l1), .lit (.int .i64 x.l2), .lit (.int .i64 x.l3), .lit (.int .i64 x.l4), .lit (.int .i64 x.l5), .lit (.int .i64 x.l6), .sl 7 (x.log.map encE)]
def encZ (n : Int) : List DV := [.lit (.int .i64 n)]

def outB (least n : Int) : Bool := decide (n < least) || decide (1099511627776 < n)
def fitsB (least : Int) (l : List Int) : Bool := !(l.any (outB least))
def placeB (n : Int) : Bool := decide (0 ≤ n) && decide (n < 7)
def mayE (e : EntT) : Bool := decide (0 ≤ e.1) && (decide (e.1 < 8) && (fitsB 1 [e.2.1] && rightO e.2.2.1))
def headN (x : NT) : Bool := !(decide ((x.k.toNat : Int) < 1)) && (!(decide (6 < (x.k.toNat : Int))) && (placeB x.f && (placeB x.t && !(x.f == x.t))))
def numsN (x : NT) : Bool := fitsB 0 [x.v, x.n, x.i, x.s] && (fitsB 0 [x.l0, x.l1, x.l2, x.l3, x.l4, x.l5, x.l6] && !(decide (300 < (x.log.length : Int))))
def rightN (x : NT) : Bool := headN x && (numsN x && x.log.all mayE)
def FitE (e : EntT) : Prop := I64 e.1 ∧ I64 e.2.1 ∧ FitI e.2.2.1
structure FitN (x : NT) : Prop where
  hl : x.log.length ≤ 9223372036854775807
  he : ∀ e ∈ x.log, FitE e

/-! ### whether numbers fit -/
theorem fits1 (least n : Int) : AFun Try.prog 59 [int n, .ptr 0 0] [.box [int least]] (bool (outB least n)) [.box [int least]] := by
  refine AFun.of_walk hP Try.func59 rfl rfl rfl (by simp) rfl ?_
  unfold outB
  rcases h : decide (n < least) with _ | _
  · simp only [Try.f59, int, bool, h, Bool.false_or, FinR, evRes, evRVs, evRV, am, simprocAttr, tys]
    exact ⟨_, [], [0], rfl, ⟨rfl, rfl, by simp, (fun i hi => .inr ((by decide : ∀ i, i < 1 → ([0] : List Nat).getD i 0 = i) i hi)), trivial, ⟨.inr ⟨by decide, rfl⟩, trivial⟩, rfl, by decide, rfl, (by first | rfl | simp [scRow, tkC_scs])⟩, rfl, rfl⟩
  · simp only [Try.f59, int, bool, h, Bool.true_or, FinR, evRes, evRVs, evRV, am, simprocAttr, tys]
    exact ⟨_, [], [0], rfl, ⟨rfl, rfl, by simp, (fun i hi => .inr ((by decide : ∀ i, i < 1 → ([0] : List Nat).getD i 0 = i) i hi)), trivial, ⟨.inr ⟨by decide, rfl⟩, trivial⟩, rfl, by decide, rfl, (by first | rfl | simp [scRow, tkC_scs])⟩, rfl, rfl⟩

theorem indexI (l : List Int) (least : Int) (hl : l.length ≤ 9223372036854775807) :
    AFun Try.prog 81 [.d (.sl 1 (l.map encZ)), .clo (.func 59) [] [.ptr 0 0]] [.box [int least]] (int (ixI (l.findIdx? (outB least)))) [.box [int least]] := by
  refine AFun.of_walk hP Try.func81 rfl rfl rfl (by simp) rfl ?_
  simp only [Try.f81, int, am, simprocAttr, tys]
  refine ALoopW.intro 19 1 (ι := { i : Nat // i ≤ l.length ∧ (l.take i).findIdx? (outB least) = none }) (fun i => [(0, .d (.sl 1 (l.map encZ))), (1, .clo (.func 59) [] [.ptr 0 0]), (6, .d (.sl 1 (l.map encZ))), (7, int l.length), (8, int i.1)]) (fun _ => [.box [int least]]) (fun i => l.length - i.1) ⟨0, by omega, by simp⟩ [] [0] ?_ (fun ⟨i, hi, hfd⟩ => ?_)
  · exact ⟨rfl, rfl, by simp, (fun i hi => .inr ((by decide : ∀ i, i < 1 → ([0] : List Nat).getD i 0 = i) i hi)), ⟨.inr rfl, .inr rfl, .inr rfl, .inr rfl, .inr rfl, trivial⟩, ⟨.inr ⟨by decide, rfl⟩, trivial⟩, rfl, by decide, rfl, (by first | rfl | simp [scRow, tkC_scs])⟩
  simp only
  rcases Nat.lt_or_ge i l.length with hlt | hge
  · have hb : l[i]? = some l[i] := List.getElem?_eq_getElem hlt
    have hlt2 : ((i : Int) < l.length) := by omega
    have hst : (l.take (i + 1)).findIdx? (outB least) = if outB least l[i] = true then some i else none := by
      rw [List.take_succ_eq_append_getElem hlt, List.findIdx?_append, hfd]
      simp [List.findIdx?_cons, Nat.min_eq_left (Nat.le_of_lt hlt)]
    have e1 : IntKind.i64.wrap ((i : Int) + 1) = ((i + 1 : Nat) : Int) := by rw [IntWalk.i64_in _ (by omega)]; simp
    simp only [int, hb, hlt2, encZ, Int.natCast_nonneg, am, simprocAttr, tys]
    refine ACall.of (fits1 least l[i]) [0] [] rfl (by simp) (by simp) (by simp) (by repeat' (first | exact trivial | exact .inl rfl | exact .inr rfl | exact .inr ⟨rfl, rfl, rfl, by simp; done⟩ | exact .inr ⟨rfl, by simp; done⟩ | exact .inr ⟨rfl, rfl, by simp; done⟩ | apply And.intro)) (by repeat' (first | exact trivial | rfl | exact (tkC_ren.1 _ _).symm | (simp; done) | apply And.intro)) (by first | exact .inl rfl | (refine .inr ⟨trivial, ?_⟩; first | (intro row h; rcases List.mem_singleton.1 h with rfl; exact nvB _) | (intro row h; cases h; done) | (simp; done)) | (refine .inr ⟨by simp [nvP, nvP.nvPs, nvD, nilS, errno], ?_⟩; first | (intro row h; rcases List.mem_singleton.1 h with rfl; exact nvB _) | (intro row h; cases h; done) | (simp [nvRow, nvD, nvP]; done))) ?_
    rcases hp : outB least l[i] with _ | _
    · rw [hp] at hst
      simp only [bool, e1, am, simprocAttr, tys]
      exact ⟨⟨i + 1, by omega, by simpa using hst⟩, [], [0], ⟨rfl, rfl, by simp, (fun i hi => .inr ((by decide : ∀ i, i < 1 → ([0] : List Nat).getD i 0 = i) i hi)), ⟨.inr rfl, .inr rfl, .inr rfl, .inr rfl, .inr rfl, trivial⟩, ⟨.inr ⟨by decide, rfl⟩, trivial⟩, rfl, by decide, rfl, (by first | rfl | simp [scRow, tkC_scs])⟩, by show l.length - (i + 1) < l.length - i; omega⟩
    · rw [hp] at hst
      have hfull : l.findIdx? (outB least) = some i := by
        conv => lhs; rw [← List.take_append_drop (i + 1) l]
        rw [List.findIdx?_append, hst]; rfl
      simp only [bool, hfull, ixI, int, FinR, evRes, evRVs, evRV, am, simprocAttr, tys]
      exact ⟨_, [], [0], rfl, ⟨rfl, rfl, by simp, (fun i hi => .inr ((by decide : ∀ i, i < 1 → ([0] : List Nat).getD i 0 = i) i hi)), trivial, ⟨.inr ⟨by decide, rfl⟩, trivial⟩, rfl, by decide, rfl, (by first | rfl | simp [scRow, tkC_scs])⟩, rfl, rfl⟩
  · have hlt2 : ¬ ((i : Int) < l.length) := by omega
    have hi' : i = l.length := by omega
    subst hi'
    rw [List.take_length] at hfd
    simp only [int, hlt2, hfd, ixI, FinR, evRes, evRVs, evRV, am, simprocAttr, tys]
    exact ⟨_, [], [0], rfl, ⟨rfl, rfl, by simp, (fun i hi => .inr ((by decide : ∀ i, i < 1 → ([0] : List Nat).getD i 0 = i) i hi)), trivial, ⟨.inr ⟨by decide, rfl⟩, trivial⟩, rfl, by decide, rfl, (by first | rfl | simp [scRow, tkC_scs])⟩, rfl, rfl⟩

theorem containsI (l : List Int) (least : Int) (hl : l.length ≤ 9223372036854775807) :
    AFun Try.prog 58 [.d (.sl 1 (l.map encZ)), .clo (.func 59) [] [.ptr 0 0]] [.box [int least]] (bool (l.any (outB least))) [.box [int least]] := by
  refine AFun.of_walk hP Try.func58 rfl rfl rfl (by simp) rfl ?_
  simp only [Try.f58, int, am, simprocAttr, tys]
  refine ACall.of (indexI l least hl) [0] [] rfl (by simp) (by simp) (by simp) (by repeat' (first | exact trivial | exact .inl rfl | exact .inr rfl | exact .inr ⟨rfl, rfl, rfl, by simp; done⟩ | exact .inr ⟨rfl, by simp; done⟩ | exact .inr ⟨rfl, rfl, by simp; done⟩ | apply And.intro)) (by repeat' (first | exact trivial | rfl | exact (tkC_ren.1 _ _).symm | (simp; done) | apply And.intro)) (by first | exact .inl rfl | (refine .inr ⟨trivial, ?_⟩; first | (intro row h; rcases List.mem_singleton.1 h with rfl; exact nvB _) | (intro row h; cases h; done) | (simp; done)) | (refine .inr ⟨by simp [nvP, nvP.nvPs, nvD, nilS, errno], ?_⟩; first | (intro row h; rcases List.mem_singleton.1 h with rfl; exact nvB _) | (intro row h; cases h; done) | (simp [nvRow, nvD, nvP]; done))) ?_
  simp only [int, bool, findIdx_any, FinR, evRes, evRVs, evRV, am, simprocAttr, tys]
  exact ⟨_, [], [0], rfl, ⟨rfl, rfl, by simp, (fun i hi => .inr ((by decide : ∀ i, i < 1 → ([0] : List Nat).getD i 0 = i) i hi)), trivial, ⟨.inr ⟨by decide, rfl⟩, trivial⟩, rfl, by decide, rfl, (by first | rfl | simp [scRow, tkC_scs])⟩, rfl, rfl⟩

theorem noteFits (least : Int) (l : List Int) (hl : l.length ≤ 9223372036854775807) : AFun Try.prog 31 [int least, .d (.sl 1 (l.map encZ))] [] (bool (fitsB least l)) [] := by
  refine AFun.of_walk hP Try.func31 rfl rfl rfl (by simp) rfl ?_
  simp only [Try.f31, int, am, simprocAttr, tys]
  refine ACall.of (containsI l least hl) [0] [] rfl (by simp) (by simp) (by simp) (by repeat' (first | exact trivial | exact .inl rfl | exact .inr rfl | exact .inr ⟨rfl, rfl, rfl, by simp; done⟩ | exact .inr ⟨rfl, by simp; done⟩ | exact .inr ⟨rfl, rfl, by simp; done⟩ | apply And.intro)) (by repeat' (first | exact trivial | rfl | exact (tkC_ren.1 _ _).symm | (simp; done) | apply And.intro)) (by first | exact .inl rfl | (refine .inr ⟨trivial, ?_⟩; first | (intro row h; rcases List.mem_singleton.1 h with rfl; exact nvB _) | (intro row h; cases h; done) | (simp; done)) | (refine .inr ⟨by simp [nvP, nvP.nvPs, nvD, nilS, errno], ?_⟩; first | (intro row h; rcases List.mem_singleton.1 h with rfl; exact nvB _) | (intro row h; cases h; done) | (simp [nvRow, nvD, nvP]; done))) ?_
  simp only [bool, fitsB, FinR, evRes, evRVs, evRV, am, simprocAttr, tys]
  exact ⟨_, [], [], rfl, Ent.plain rfl rfl rfl trivial rfl, rfl, rfl⟩

theorem notePlace (n : Int) : AFun Try.prog 30 [int n] [] (bool (placeB n)) [] := by
  refine AFun.of_walk hP Try.func30 rfl rfl rfl (by simp) rfl ?_
  unfold placeB
  rcases h : decide (0 ≤ n) with _ | _
  · simp only [Try.f30, int, bool, h, Bool.false_and, FinR, evRes, evRVs, evRV, am, simprocAttr, tys]
    exact ⟨_, [], [], rfl, Ent.plain rfl rfl rfl trivial rfl, rfl, rfl⟩
  · simp only [Try.f30, int, bool, h, Bool.true_and, FinR, evRes, evRVs, evRV, am, simprocAttr, tys]
    exact ⟨_, [], [], rfl, Ent.plain rfl rfl rfl trivial rfl, rfl, rfl⟩
end Go.Proofs.Ytflpphgccjlkjaa

set_option linter.unusedSimpArgs false
set_option linter.unusedVariables false
namespace Go.Proofs.Ytflpphgccjlkjaa
open Go Go.AM

theorem noteMay (e : EntT) (h : FitE e) : AFun Try.prog 34 [.d (.agg (encE e))] [] (bool (mayE e)) [] := by
  refine AFun.of_walk hP Try.func34 rfl rfl rfl (by simp) rfl ?_
  have cR := opRight e.2.2.1 h.2.2.toFit
  simp only [encO] at cR
  unfold mayE
  rcases h0 : decide (0 ≤ e.1) with _ | _
  · simp only [Try.f34, encE, bool, h0, Bool.false_and, FinR, evRes, evRVs, evRV, am, simprocAttr, tys]
    exact ⟨_, [], [], rfl, Ent.plain rfl rfl rfl trivial rfl, rfl, rfl⟩
  rcases h1 : decide (e.1 < 8) with _ | _
  · simp only [Try.f34, encE, bool, h0, h1, Bool.false_and, Bool.true_and, FinR, evRes, evRVs, evRV, am, simprocAttr, tys]
    exact ⟨_, [], [], rfl, Ent.plain rfl rfl rfl trivial rfl, rfl, rfl⟩
  simp only [Try.f34, encE, h0, h1, Bool.true_and, am, simprocAttr, tys]
  refine ACall.of (noteFits 1 [e.2.1] (by simp)) [] [1] rfl (by simp) (by simp) (by simp) (by repeat' (first | exact trivial | exact .inl rfl | exact .inr rfl | exact .inr ⟨rfl, rfl, rfl, by simp; done⟩ | exact .inr ⟨rfl, by simp; done⟩ | exact .inr ⟨rfl, rfl, by simp; done⟩ | apply And.intro)) (by repeat' (first | exact trivial | rfl | exact (tkC_ren.1 _ _).symm | (simp; done) | apply And.intro)) (by first | exact .inl rfl | (refine .inr ⟨trivial, ?_⟩; first | (intro row h; rcases List.mem_singleton.1 h with rfl; exact nvB _) | (intro row h; cases h; done) | (simp; done)) | (refine .inr ⟨by simp [nvP, nvP.nvPs, nvD, nilS, errno], ?_⟩; first | (intro row h; rcases List.mem_singleton.1 h with rfl; exact nvB _) | (intro row h; cases h; done) | (simp [nvRow, nvD, nvP]; done))) ?_
  rcases h2 : fitsB 1 [e.2.1] with _ | _
  · simp only [bool, Bool.false_and, FinR, evRes, evRVs, evRV, am, simprocAttr, tys]
    exact ⟨_, [], [], rfl, Ent.plain rfl rfl rfl trivial rfl, rfl, rfl⟩
  · simp only [bool, Bool.true_and, am, simprocAttr, tys]
    refine ACall.of (cR) [] [] rfl (by simp) (by simp) (by simp) (by repeat' (first | exact trivial | exact .inl rfl | exact .inr rfl | exact .inr ⟨rfl, rfl, rfl, by simp; done⟩ | exact .inr ⟨rfl, by simp; done⟩ | exact .inr ⟨rfl, rfl, by simp; done⟩ | apply And.intro)) (by repeat' (first | exact trivial | rfl | exact (tkC_ren.1 _ _).symm | (simp; done) | apply And.intro)) (by first | exact .inl rfl | (refine .inr ⟨trivial, ?_⟩; first | (intro row h; rcases List.mem_singleton.1 h with rfl; exact nvB _) | (intro row h; cases h; done) | (simp; done)) | (refine .inr ⟨by simp [nvP, nvP.nvPs, nvD, nilS, errno], ?_⟩; first | (intro row h; rcases List.mem_singleton.1 h with rfl; exact nvB _) | (intro row h; cases h; done) | (simp [nvRow, nvD, nvP]; done))) ?_
    simp only [bool, FinR, evRes, evRVs, evRV, am, simprocAttr, tys]
    exact ⟨_, [], [], rfl, Ent.plain rfl rfl rfl trivial rfl, rfl, rfl⟩

theorem noteRight1 (e : EntT) (h : FitE e) : AFun Try.prog 33 [.d (.agg (encE e))] [] (bool (!(mayE e))) [] := by
  refine AFun.of_walk hP Try.func33 rfl rfl rfl (by simp) rfl ?_
  have c := noteMay e h
  simp only [encE] at c
  simp only [Try.f33, encE, am, simprocAttr, tys]
  refine ACall.of (c) [] [] rfl (by simp) (by simp) (by simp) (by repeat' (first | exact trivial | exact .inl rfl | exact .inr rfl | exact .inr ⟨rfl, rfl, rfl, by simp; done⟩ | exact .inr ⟨rfl, by simp; done⟩ | exact .inr ⟨rfl, rfl, by simp; done⟩ | apply And.intro)) (by repeat' (first | exact trivial | rfl | exact (tkC_ren.1 _ _).symm | (simp; done) | apply And.intro)) (by first | exact .inl rfl | (refine .inr ⟨trivial, ?_⟩; first | (intro row h; rcases List.mem_singleton.1 h with rfl; exact nvB _) | (intro row h; cases h; done) | (simp; done)) | (refine .inr ⟨by simp [nvP, nvP.nvPs, nvD, nilS, errno], ?_⟩; first | (intro row h; rcases List.mem_singleton.1 h with rfl; exact nvB _) | (intro row h; cases h; done) | (simp [nvRow, nvD, nvP]; done))) ?_
  simp only [bool, FinR, evRes, evRVs, evRV, am, simprocAttr, tys]
  exact ⟨_, [], [], rfl, Ent.plain rfl rfl rfl trivial rfl, rfl, rfl⟩

theorem indexE (l : List EntT) (p : EntT → Bool) (f : Nat) (hl : l.length ≤ 9223372036854775807) (hf : isFn Try.prog f = true)
    (hc : ∀ a ∈ l, AFun Try.prog f [.d (.agg (encE a))] [] (bool (p a)) []) :
    AFun Try.prog 60 [.d (.sl 7 (l.map encE)), .clo (.func f) [] []] [] (int (ixI (l.findIdx? p))) [] := by
  refine AFun.of_walk hP Try.func60 rfl rfl rfl (by simp) rfl ?_
  simp only [Try.f60, am, simprocAttr, tys]
  refine ALoopW.intro 19 0 (ι := { i : Nat // i ≤ l.length ∧ (l.take i).findIdx? p = none }) (fun i => [(0, .d (.sl 7 (l.map encE))), (1, .clo (.func f) [] []), (6, .d (.sl 7 (l.map encE))), (7, .d (.lit (.int .i64 l.length))), (8, .d (.lit (.int .i64 i.1)))]) (fun _ => []) (fun i => l.length - i.1) ⟨0, by omega, by simp⟩ [] [] ?_ (fun ⟨i, hi, hfd⟩ => ?_)
  · exact Ent.plain rfl rfl rfl (⟨.inr rfl, .inr rfl, .inr rfl, .inr rfl, .inr rfl, trivial⟩) rfl
  rcases Nat.lt_or_ge i l.length with hlt | hge
  · have hb : l[i]? = some l[i] := List.getElem?_eq_getElem hlt
    have hlt2 : ((i : Int) < l.length) := by omega
    have hst : (l.take (i + 1)).findIdx? p = if p l[i] = true then some i else none := by
      rw [List.take_succ_eq_append_getElem hlt, List.findIdx?_append, hfd]
      simp [List.findIdx?_cons, Nat.min_eq_left (Nat.le_of_lt hlt)]
    have e1 : IntKind.i64.wrap ((i : Int) + 1) = ((i + 1 : Nat) : Int) := by rw [IntWalk.i64_in _ (by omega)]; simp
    have hcc := hc l[i] (List.getElem_mem hlt)
    simp only [encE] at hcc
    simp only [hb, hlt2, encE, Int.natCast_nonneg, hf, am, simprocAttr, tys]
    refine ACall.of (hcc) [] [] rfl (by simp) (by simp) (by simp) (by repeat' (first | exact trivial | exact .inl rfl | exact .inr rfl | exact .inr ⟨rfl, rfl, rfl, by simp; done⟩ | exact .inr ⟨rfl, by simp; done⟩ | exact .inr ⟨rfl, rfl, by simp; done⟩ | apply And.intro)) (by repeat' (first | exact trivial | rfl | exact (tkC_ren.1 _ _).symm | (simp; done) | apply And.intro)) (by first | exact .inl rfl | (refine .inr ⟨trivial, ?_⟩; first | (intro row h; rcases List.mem_singleton.1 h with rfl; exact nvB _) | (intro row h; cases h; done) | (simp; done)) | (refine .inr ⟨by simp [nvP, nvP.nvPs, nvD, nilS, errno], ?_⟩; first | (intro row h; rcases List.mem_singleton.1 h with rfl; exact nvB _) | (intro row h; cases h; done) | (simp [nvRow, nvD, nvP]; done))) ?_
    rcases hp : p l[i] with _ | _
    · rw [hp] at hst
      simp only [bool, e1, am, simprocAttr, tys]
      exact ⟨⟨i + 1, by omega, by simpa using hst⟩, [], [], Ent.plain rfl rfl rfl (⟨.inr rfl, .inr rfl, .inr rfl, .inr rfl, .inr rfl, trivial⟩) rfl, by show l.length - (i + 1) < l.length - i; omega⟩
    · rw [hp] at hst
      have hfull : l.findIdx? p = some i := by
        conv => lhs; rw [← List.take_append_drop (i + 1) l]
        rw [List.findIdx?_append, hst]; rfl
      simp only [bool, hfull, ixI, int, FinR, evRes, evRVs, evRV, am, simprocAttr, tys]
      exact ⟨_, [], [], rfl, Ent.plain rfl rfl rfl trivial rfl, rfl, rfl⟩
  · have hlt2 : ¬ ((i : Int) < l.length) := by omega
    have hi' : i = l.length := by omega
    subst hi'
    rw [List.take_length] at hfd
    simp only [hlt2, hfd, ixI, FinR, evRes, evRVs, evRV, int, am, simprocAttr, tys]
    exact ⟨_, [], [], rfl, Ent.plain rfl rfl rfl trivial rfl, rfl, rfl⟩

theorem containsE (l : List EntT) (hl : l.length ≤ 9223372036854775807) (he : ∀ e ∈ l, FitE e) :
    AFun Try.prog 32 [.d (.sl 7 (l.map encE)), .clo (.func 33) [] []] [] (bool (l.any fun e => !(mayE e))) [] := by
  refine AFun.of_walk hP Try.func32 rfl rfl rfl (by simp) rfl ?_
  simp only [Try.f32, am, simprocAttr, tys]
  refine ACall.of (indexE l (fun e => !(mayE e)) 33 hl (by kernel_rfl) (fun x hx => noteRight1 x (he x hx))) [] [] rfl (by simp) (by simp) (by simp) (by repeat' (first | exact trivial | exact .inl rfl | exact .inr rfl | exact .inr ⟨rfl, rfl, rfl, by simp; done⟩ | exact .inr ⟨rfl, by simp; done⟩ | exact .inr ⟨rfl, rfl, by simp; done⟩ | apply And.intro)) (by repeat' (first | exact trivial | rfl | exact (tkC_ren.1 _ _).symm | (simp; done) | apply And.intro)) (by first | exact .inl rfl | (refine .inr ⟨trivial, ?_⟩; first | (intro row h; rcases List.mem_singleton.1 h with rfl; exact nvB _) | (intro row h; cases h; done) | (simp; done)) | (refine .inr ⟨by simp [nvP, nvP.nvPs, nvD, nilS, errno], ?_⟩; first | (intro row h; rcases List.mem_singleton.1 h with rfl; exact nvB _) | (intro row h; cases h; done) | (simp [nvRow, nvD, nvP]; done))) ?_
  simp only [int, bool, findIdx_any, FinR, evRes, evRVs, evRV, am, simprocAttr, tys]
  exact ⟨_, [], [], rfl, Ent.plain rfl rfl rfl trivial rfl, rfl, rfl⟩

set_option maxRecDepth 8000 in
set_option maxHeartbeats 2000000 in
theorem noteRight (x : NT) (h : FitN x) : AFun Try.prog 15 [.d (.agg (encN x))] [] (bool (rightN x)) [] := by
  refine AFun.of_walk hP Try.func15 rfl rfl rfl (by simp) rfl ?_
  unfold rightN headN numsN
  rcases h1 : decide ((x.k.toNat : Int) < 1) with _ | _
  case' true =>
    simp only [Try.f15, encN, bool, h1, Bool.not_true, Bool.false_and, FinR, evRes, evRVs, evRV, am, simprocAttr, tys]
    exact ⟨_, [], [], rfl, Ent.plain rfl rfl rfl trivial rfl, rfl, rfl⟩
  rcases h2 : decide (6 < (x.k.toNat : Int)) with _ | _
  case' true =>
    simp only [Try.f15, encN, bool, h1, h2, Bool.not_true, Bool.not_false, Bool.true_and, Bool.false_and, FinR, evRes, evRVs, evRV, am, simprocAttr, tys]
    exact ⟨_, [], [], rfl, Ent.plain rfl rfl rfl trivial rfl, rfl, rfl⟩
  simp only [Try.f15, encN, h1, h2, Bool.not_false, Bool.true_and, am, simprocAttr, tys]
  refine ACall.of (notePlace x.f) [] [] rfl (by simp) (by simp) (by simp) (by repeat' (first | exact trivial | exact .inl rfl | exact .inr rfl | exact .inr ⟨rfl, rfl, rfl, by simp; done⟩ | exact .inr ⟨rfl, by simp; done⟩ | exact .inr ⟨rfl, rfl, by simp; done⟩ | apply And.intro)) (by repeat' (first | exact trivial | rfl | exact (tkC_ren.1 _ _).symm | (simp; done) | apply And.intro)) (by first | exact .inl rfl | (refine .inr ⟨trivial, ?_⟩; first | (intro row h; rcases List.mem_singleton.1 h with rfl; exact nvB _) | (intro row h; cases h; done) | (simp; done)) | (refine .inr ⟨by simp [nvP, nvP.nvPs, nvD, nilS, errno], ?_⟩; first | (intro row h; rcases List.mem_singleton.1 h with rfl; exact nvB _) | (intro row h; cases h; done) | (simp [nvRow, nvD, nvP]; done))) ?_
  rcases h3 : placeB x.f with _ | _
  case' false =>
    simp only [bool, Bool.false_and, FinR, evRes, evRVs, evRV, am, simprocAttr, tys]
    exact ⟨_, [], [], rfl, Ent.plain rfl rfl rfl trivial rfl, rfl, rfl⟩
  simp only [bool, Bool.true_and, am, simprocAttr, tys]
  refine ACall.of (notePlace x.t) [] [] rfl (by simp) (by simp) (by simp) (by repeat' (first | exact trivial | exact .inl rfl | exact .inr rfl | exact .inr ⟨rfl, rfl, rfl, by simp; done⟩ | exact .inr ⟨rfl, by simp; done⟩ | exact .inr ⟨rfl, rfl, by simp; done⟩ | apply And.intro)) (by repeat' (first | exact trivial | rfl | exact (tkC_ren.1 _ _).symm | (simp; done) | apply And.intro)) (by first | exact .inl rfl | (refine .inr ⟨trivial, ?_⟩; first | (intro row h; rcases List.mem_singleton.1 h with rfl; exact nvB _) | (intro row h; cases h; done) | (simp; done)) | (refine .inr ⟨by simp [nvP, nvP.nvPs, nvD, nilS, errno], ?_⟩; first | (intro row h; rcases List.mem_singleton.1 h with rfl; exact nvB _) | (intro row h; cases h; done) | (simp [nvRow, nvD, nvP]; done))) ?_
  rcases h4 : placeB x.t with _ | _
  case' false =>
    simp only [bool, Bool.false_and, FinR, evRes, evRVs, evRV, am, simprocAttr, tys]
    exact ⟨_, [], [], rfl, Ent.plain rfl rfl rfl trivial rfl, rfl, rfl⟩
  rcases h5 : x.f == x.t with _ | _
  case' true =>
    simp only [bool, h5, Bool.true_and, Bool.not_true, Bool.false_and, FinR, evRes, evRVs, evRV, am, simprocAttr, tys]
    exact ⟨_, [], [], rfl, Ent.plain rfl rfl rfl trivial rfl, rfl, rfl⟩
  simp only [bool, h5, Bool.true_and, Bool.not_false, am, simprocAttr, tys]
  refine ACall.of (noteFits 0 [x.v, x.n, x.i, x.s] (by simp)) [] [1] rfl (by simp) (by simp) (by simp) (by repeat' (first | exact trivial | exact .inl rfl | exact .inr rfl | exact .inr ⟨rfl, rfl, rfl, by simp; done⟩ | exact .inr ⟨rfl, by simp; done⟩ | exact .inr ⟨rfl, rfl, by simp; done⟩ | apply And.intro)) (by repeat' (first | exact trivial | rfl | exact (tkC_ren.1 _ _).symm | (simp; done) | apply And.intro)) (by first | exact .inl rfl | (refine .inr ⟨trivial, ?_⟩; first | (intro row h; rcases List.mem_singleton.1 h with rfl; exact nvB _) | (intro row h; cases h; done) | (simp; done)) | (refine .inr ⟨by simp [nvP, nvP.nvPs, nvD, nilS, errno], ?_⟩; first | (intro row h; rcases List.mem_singleton.1 h with rfl; exact nvB _) | (intro row h; cases h; done) | (simp [nvRow, nvD, nvP]; done))) ?_
  rcases h6 : fitsB 0 [x.v, x.n, x.i, x.s] with _ | _
  case' false =>
    simp only [bool, Bool.false_and, FinR, evRes, evRVs, evRV, am, simprocAttr, tys]
    exact ⟨_, [], [], rfl, Ent.plain rfl rfl rfl trivial rfl, rfl, rfl⟩
  simp only [bool, Bool.true_and, am, simprocAttr, tys]
  refine ACall.of (noteFits 0 [x.l0, x.l1, x.l2, x.l3, x.l4, x.l5, x.l6] (by simp)) [] [0] rfl (by simp) (by simp) (by simp) (by repeat' (first | exact trivial | exact .inl rfl | exact .inr rfl | exact .inr ⟨rfl, rfl, rfl, by simp; done⟩ | exact .inr ⟨rfl, by simp; done⟩ | exact .inr ⟨rfl, rfl, by simp; done⟩ | apply And.intro)) (by repeat' (first | exact trivial | rfl | exact (tkC_ren.1 _ _).symm | (simp; done) | apply And.intro)) (by first | exact .inl rfl | (refine .inr ⟨trivial, ?_⟩; first | (intro row h; rcases List.mem_singleton.1 h with rfl; exact nvB _) | (intro row h; cases h; done) | (simp; done)) | (refine .inr ⟨by simp [nvP, nvP.nvPs, nvD, nilS, errno], ?_⟩; first | (intro row h; rcases List.mem_singleton.1 h with rfl; exact nvB _) | (intro row h; cases h; done) | (simp [nvRow, nvD, nvP]; done))) ?_
  rcases h7 : fitsB 0 [x.l0, x.l1, x.l2, x.l3, x.l4, x.l5, x.l6] with _ | _
  case' false =>
    simp only [bool, Bool.false_and, FinR, evRes, evRVs, evRV, am, simprocAttr, tys]
    exact ⟨_, [], [], rfl, Ent.plain rfl rfl rfl trivial rfl, rfl, rfl⟩
  rcases h8 : decide (300 < (x.log.length : Int)) with _ | _
  case' true =>
    simp only [bool, h8, Bool.true_and, Bool.not_true, Bool.false_and, FinR, evRes, evRVs, evRV, am, simprocAttr, tys]
    exact ⟨_, [], [], rfl, Ent.plain rfl rfl rfl trivial rfl, rfl, rfl⟩
  simp only [bool, h8, Bool.true_and, Bool.not_false, am, simprocAttr, tys]
  refine ACall.of (containsE x.log h.hl h.he) [] [] rfl (by simp) (by simp) (by simp) (by repeat' (first | exact trivial | exact .inl rfl | exact .inr rfl | exact .inr ⟨rfl, rfl, rfl, by simp; done⟩ | exact .inr ⟨rfl, by simp; done⟩ | exact .inr ⟨rfl, rfl, by simp; done⟩ | apply And.intro)) (by repeat' (first | exact trivial | rfl | exact (tkC_ren.1 _ _).symm | (simp; done) | apply And.intro)) (by first | exact .inl rfl | (refine .inr ⟨trivial, ?_⟩; first | (intro row h; rcases List.mem_singleton.1 h with rfl; exact nvB _) | (intro row h; cases h; done) | (simp; done)) | (refine .inr ⟨by simp [nvP, nvP.nvPs, nvD, nilS, errno], ?_⟩; first | (intro row h; rcases List.mem_singleton.1 h with rfl; exact nvB _) | (intro row h; cases h; done) | (simp [nvRow, nvD, nvP]; done))) ?_
  have e2 : (!(x.log.any fun e => !(mayE e))) = x.log.all mayE := by simp [List.not_any_eq_all_not]
  simp only [e2, bool, FinR, evRes, evRVs, evRV, am, simprocAttr, tys]
  exact ⟨_, [], [], rfl, Ent.plain rfl rfl rfl trivial rfl, rfl, rfl⟩

theorem refFits (n : Int) : AFun Try.prog 35 [int n] [] (bool (!(outB 0 n))) [] := by
  refine AFun.of_walk hP Try.func35 rfl rfl rfl (by simp) rfl ?_
  unfold outB
  rcases Int.lt_or_le n 0 with h | h
  · have h1 : decide (0 ≤ n) = false := decide_eq_false (by omega)
    have h2 : decide (n < 0) = true := decide_eq_true h
    simp only [Try.f35, int, bool, h1, h2, Bool.true_or, Bool.not_true, FinR, evRes, evRVs, evRV, am, simprocAttr, tys]
    exact ⟨_, [], [], rfl, Ent.plain rfl rfl rfl trivial rfl, rfl, rfl⟩
  · have h1 : decide (0 ≤ n) = true := decide_eq_true h
    have h2 : decide (n < 0) = false := decide_eq_false (by omega)
    have h3 : decide (n ≤ 1099511627776) = !(decide (1099511627776 < n)) := by
      rcases Int.lt_or_le 1099511627776 n with q | q
      · rw [decide_eq_false (by omega), decide_eq_true q]; rfl
      · rw [decide_eq_true q, decide_eq_false (by omega)]; rfl
    simp only [Try.f35, int, bool, h1, h2, h3, Bool.false_or, FinR, evRes, evRVs, evRV, am, simprocAttr, tys]
    exact ⟨_, [], [], rfl, Ent.plain rfl rfl rfl trivial rfl, rfl, rfl⟩
end Go.Proofs.Ytflpphgccjlkjaa
