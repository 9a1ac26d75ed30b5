/- Proved here: what functions of the program compute, and plain laws. No condition. -/
import Derived.Test.YtjaklhbifgbiaaaCrcLin
import Derived.Test.YtjaklhbifgbiaaaRPut
set_option linter.unusedSimpArgs false
set_option linter.unusedVariables false
namespace Go.Proofs.Ytjaklhbifgbiaaa
open Go Go.AM

theorem mul16 (b : UInt8) : IntKind.u32.wrap (((b.toBitVec.setWidth 32).toNat : Int) * 16777216) = ((b.toBitVec.setWidth 32 <<< 24).toNat : Int) := by
  have := sl32 (b.toBitVec.setWidth 32) 24
  exact this

theorem bitLow (s : BitVec 32) (h : ((s.toNat : Nat) : Int) < 2147483648) : IntKind.u32.wrap (2 * (s.toNat : Int)) = ((crcBit s).toNat : Int) := by
  have hm : s.msb = false := by rw [BitVec.msb_eq_decide]; simp; omega
  rw [crcBit_msb, hm]
  simp only [Bool.false_eq_true, if_false, BitVec.xor_zero]
  rw [IntKind.wrap_u32, BitVec.toNat_shiftLeft, Nat.shiftLeft_eq]; omega

theorem bitHigh (s : BitVec 32) (h : ¬ ((s.toNat : Nat) : Int) < 2147483648) : evBits .xor .u32 (IntKind.u32.wrap (2 * IntKind.u32.wrap ((s.toNat : Int) - 2147483648))) 79764919 = ((crcBit s).toNat : Int) := by
  have hs := s.isLt
  have hm : s.msb = true := by rw [BitVec.msb_eq_decide]; simp; omega
  rw [crcBit_msb, hm]
  simp only [if_true]
  rw [IntWalk.u32_in ((s.toNat : Int) - 2147483648) (by omega)]
  have e : IntKind.u32.wrap (2 * ((s.toNat : Int) - 2147483648)) = ((s <<< 1).toNat : Int) := by
    rw [IntKind.wrap_u32, BitVec.toNat_shiftLeft, Nat.shiftLeft_eq]; omega
  rw [e]
  exact x32 (s <<< 1) 79764919#32

theorem notX (s : BitVec 32) : evBits .xor .u32 (s.toNat : Int) 4294967295 = ((~~~s).toNat : Int) := by
  have := x32 s (BitVec.allOnes 32)
  rw [BitVec.xor_allOnes] at this
  exact this

theorem refSum (bs : List UInt8) (hl : bs.length ≤ 9223372036854775807) : AFun Try.prog 13 [.d (.sl 1 (bs.map encB))] [] (w32 (crc bs)) [] := by
  refine AFun.of_walk hP Try.func13 rfl rfl rfl (by simp) rfl ?_
  simp only [Try.f13, am1, am2, am3, am4, am5, am6, am7, am8, am9, am10, am11, am12, am13, am14, am15, List.size_toArray, List.replicate_zero, List.length_map, List.length_append, List.length_nil, List.length_cons, List.getElem?_map, List.getElem?_toArray, List.getElem?_cons_zero, List.getElem?_cons_succ, List.getD_cons_zero, List.getD_cons_succ, List.map_cons, List.map_nil, List.toList_toArray, List.all_cons, List.all_nil, List.flatMap_cons, List.flatMap_nil, List.reverse_cons, List.reverse_nil, List.take_succ_cons, List.take_zero, List.drop_succ_cons, List.drop_zero, List.nil_append, List.cons_append, List.append_nil, Option.map_some, Option.map_none, Option.some_or, Option.none_or, Option.bind_some, Option.getD_some, Option.getD_none, Option.isNone_some, Option.isSome_some, Option.isSome_none, Option.isNone_none, if_true, if_false, beq_self_eq_true, List.length_set, List.isEmpty_cons, List.isEmpty_nil, List.mem_cons, List.not_mem_nil, Int.reduceNe, Int.reduceEq, ne_eq, not_false_eq_true, Int.reduceBEq, Int.reduceBNe, Int.reduceAdd, Int.reduceSub, Int.reduceMul, Int.reduceNeg, Int.reduceLE, Int.reduceLT, Nat.reduceEqDiff, Nat.reduceLT, Nat.reduceLeDiff, Nat.reduceAdd, Nat.reduceMul, Nat.reduceSub, reduceCtorEq, ↓reduceIte, Int.reduceToNat, tys1, tys2, tys3, tys4]
  refine ALoopW.intro 34 0 (ι := { i : Nat // i ≤ bs.length }) (fun i => [(3, w32 (crcF (bs.take i.1))), (0, .d (.sl 1 (bs.map encB))), (4, .d (.lit (.int .i64 i.1)))]) (fun _ => []) (fun i => bs.length - i.1) ⟨0, by omega⟩ [] [] ?_ (fun ⟨i, hi⟩ => ?_)
  · exact Ent.plain rfl rfl rfl ⟨.inr rfl, .inr rfl, .inr rfl, trivial⟩ rfl
  simp only [w32, am1, am2, am3, am4, am5, am6, am7, am8, am9, am10, am11, am12, am13, am14, am15, List.size_toArray, List.replicate_zero, List.length_map, List.length_append, List.length_nil, List.length_cons, List.getElem?_map, List.getElem?_toArray, List.getElem?_cons_zero, List.getElem?_cons_succ, List.getD_cons_zero, List.getD_cons_succ, List.map_cons, List.map_nil, List.toList_toArray, List.all_cons, List.all_nil, List.flatMap_cons, List.flatMap_nil, List.reverse_cons, List.reverse_nil, List.take_succ_cons, List.take_zero, List.drop_succ_cons, List.drop_zero, List.nil_append, List.cons_append, List.append_nil, Option.map_some, Option.map_none, Option.some_or, Option.none_or, Option.bind_some, Option.getD_some, Option.getD_none, Option.isNone_some, Option.isSome_some, Option.isSome_none, Option.isNone_none, if_true, if_false, beq_self_eq_true, List.length_set, List.isEmpty_cons, List.isEmpty_nil, List.mem_cons, List.not_mem_nil, Int.reduceNe, Int.reduceEq, ne_eq, not_false_eq_true, Int.reduceBEq, Int.reduceBNe, Int.reduceAdd, Int.reduceSub, Int.reduceMul, Int.reduceNeg, Int.reduceLE, Int.reduceLT, Nat.reduceEqDiff, Nat.reduceLT, Nat.reduceLeDiff, Nat.reduceAdd, Nat.reduceMul, Nat.reduceSub, reduceCtorEq, ↓reduceIte, Int.reduceToNat, tys1, tys2, tys3, tys4]
  split
  · rename_i hlt
    have hlt' : i < bs.length := by have := of_decide_eq_true hlt; omega
    have hb : bs[i]? = some bs[i] := List.getElem?_eq_getElem hlt'
    simp only [hb, encB, Int.natCast_nonneg, cb_32, mul16, x32, am1, am2, am3, am4, am5, am6, am7, am8, am9, am10, am11, am12, am13, am14, am15, List.size_toArray, List.replicate_zero, List.length_map, List.length_append, List.length_nil, List.length_cons, List.getElem?_map, List.getElem?_toArray, List.getElem?_cons_zero, List.getElem?_cons_succ, List.getD_cons_zero, List.getD_cons_succ, List.map_cons, List.map_nil, List.toList_toArray, List.all_cons, List.all_nil, List.flatMap_cons, List.flatMap_nil, List.reverse_cons, List.reverse_nil, List.take_succ_cons, List.take_zero, List.drop_succ_cons, List.drop_zero, List.nil_append, List.cons_append, List.append_nil, Option.map_some, Option.map_none, Option.some_or, Option.none_or, Option.bind_some, Option.getD_some, Option.getD_none, Option.isNone_some, Option.isSome_some, Option.isSome_none, Option.isNone_none, if_true, if_false, beq_self_eq_true, List.length_set, List.isEmpty_cons, List.isEmpty_nil, List.mem_cons, List.not_mem_nil, Int.reduceNe, Int.reduceEq, ne_eq, not_false_eq_true, Int.reduceBEq, Int.reduceBNe, Int.reduceAdd, Int.reduceSub, Int.reduceMul, Int.reduceNeg, Int.reduceLE, Int.reduceLT, Nat.reduceEqDiff, Nat.reduceLT, Nat.reduceLeDiff, Nat.reduceAdd, Nat.reduceMul, Nat.reduceSub, reduceCtorEq, ↓reduceIte, Int.reduceToNat, tys1, tys2, tys3, tys4]
    refine ALoopW.intro 34 0 (ι := { k : Nat // k ≤ 8 }) (fun k => [(3, w32 (Nat.repeat crcBit k.1 (crcF (bs.take i) ^^^ (bs[i].toBitVec.setWidth 32 <<< 24)))), (0, .d (.sl 1 (bs.map encB))), (4, .d (.lit (.int .i64 i))), (5, .d (.lit (.int .i64 k.1)))]) (fun _ => []) (fun k => 8 - k.1) ⟨0, by omega⟩ [] [] ?_ (fun ⟨k, hk⟩ => ?_)
    · exact Ent.plain rfl rfl rfl ⟨.inr rfl, .inr rfl, .inr rfl, .inr rfl, trivial⟩ rfl
    have hX2 : Nat.repeat crcBit (k + 1) (crcF (bs.take i) ^^^ (bs[i].toBitVec.setWidth 32 <<< 24)) = crcBit (Nat.repeat crcBit k (crcF (bs.take i) ^^^ (bs[i].toBitVec.setWidth 32 <<< 24))) := rfl
    have hem : ∀ p : Prop, p ∨ ¬ p := Classical.em
    generalize hX : Nat.repeat crcBit k (crcF (bs.take i) ^^^ (bs[i].toBitVec.setWidth 32 <<< 24)) = X at hX2 ⊢
    have e1 : k < 8 → IntKind.i64.wrap ((k : Int) + 1) = ((k + 1 : Nat) : Int) := fun h => by rw [IntWalk.i64_in _ (by omega)]; simp
    rcases hem (k < 8) with hk' | hk'
    · have hk8 : ((k : Int) < 8) := by omega
      rcases hem (((X.toNat : Nat) : Int) < 2147483648) with hlo | hlo
      · simp only [w32, hX, hk8, hlo, e1 hk', bitLow X hlo, am1, am2, am3, am4, am5, am6, am7, am8, am9, am10, am11, am12, am13, am14, am15, List.size_toArray, List.replicate_zero, List.length_map, List.length_append, List.length_nil, List.length_cons, List.getElem?_map, List.getElem?_toArray, List.getElem?_cons_zero, List.getElem?_cons_succ, List.getD_cons_zero, List.getD_cons_succ, List.map_cons, List.map_nil, List.toList_toArray, List.all_cons, List.all_nil, List.flatMap_cons, List.flatMap_nil, List.reverse_cons, List.reverse_nil, List.take_succ_cons, List.take_zero, List.drop_succ_cons, List.drop_zero, List.nil_append, List.cons_append, List.append_nil, Option.map_some, Option.map_none, Option.some_or, Option.none_or, Option.bind_some, Option.getD_some, Option.getD_none, Option.isNone_some, Option.isSome_some, Option.isSome_none, Option.isNone_none, if_true, if_false, beq_self_eq_true, List.length_set, List.isEmpty_cons, List.isEmpty_nil, List.mem_cons, List.not_mem_nil, Int.reduceNe, Int.reduceEq, ne_eq, not_false_eq_true, Int.reduceBEq, Int.reduceBNe, Int.reduceAdd, Int.reduceSub, Int.reduceMul, Int.reduceNeg, Int.reduceLE, Int.reduceLT, Nat.reduceEqDiff, Nat.reduceLT, Nat.reduceLeDiff, Nat.reduceAdd, Nat.reduceMul, Nat.reduceSub, reduceCtorEq, ↓reduceIte, Int.reduceToNat, tys1, tys2, tys3, tys4]
        rw [← hX2]
        exact ⟨⟨k + 1, by omega⟩, [], [], Ent.plain rfl rfl rfl ⟨.inr rfl, .inr rfl, .inr rfl, .inr rfl, trivial⟩ rfl, by show 8 - (k + 1) < 8 - k; omega⟩
      · simp only [w32, hX, hk8, hlo, e1 hk', bitHigh X hlo, am1, am2, am3, am4, am5, am6, am7, am8, am9, am10, am11, am12, am13, am14, am15, List.size_toArray, List.replicate_zero, List.length_map, List.length_append, List.length_nil, List.length_cons, List.getElem?_map, List.getElem?_toArray, List.getElem?_cons_zero, List.getElem?_cons_succ, List.getD_cons_zero, List.getD_cons_succ, List.map_cons, List.map_nil, List.toList_toArray, List.all_cons, List.all_nil, List.flatMap_cons, List.flatMap_nil, List.reverse_cons, List.reverse_nil, List.take_succ_cons, List.take_zero, List.drop_succ_cons, List.drop_zero, List.nil_append, List.cons_append, List.append_nil, Option.map_some, Option.map_none, Option.some_or, Option.none_or, Option.bind_some, Option.getD_some, Option.getD_none, Option.isNone_some, Option.isSome_some, Option.isSome_none, Option.isNone_none, if_true, if_false, beq_self_eq_true, List.length_set, List.isEmpty_cons, List.isEmpty_nil, List.mem_cons, List.not_mem_nil, Int.reduceNe, Int.reduceEq, ne_eq, not_false_eq_true, Int.reduceBEq, Int.reduceBNe, Int.reduceAdd, Int.reduceSub, Int.reduceMul, Int.reduceNeg, Int.reduceLE, Int.reduceLT, Nat.reduceEqDiff, Nat.reduceLT, Nat.reduceLeDiff, Nat.reduceAdd, Nat.reduceMul, Nat.reduceSub, reduceCtorEq, ↓reduceIte, Int.reduceToNat, tys1, tys2, tys3, tys4]
        rw [← hX2]
        exact ⟨⟨k + 1, by omega⟩, [], [], Ent.plain rfl rfl rfl ⟨.inr rfl, .inr rfl, .inr rfl, .inr rfl, trivial⟩ rfl, by show 8 - (k + 1) < 8 - k; omega⟩
    · have hk8 : ¬ ((k : Int) < 8) := by omega
      have hk'' : k = 8 := by omega
      have e1 : IntKind.i64.wrap ((i : Int) + 1) = ((i + 1 : Nat) : Int) := by rw [IntWalk.i64_in _ (by omega)]; simp
      have e2 : X = crcF (bs.take (i + 1)) := by rw [← hX, hk'']; exact (crcF_succ bs i hlt').symm
      simp only [w32, hX, hk8, e1, e2, am1, am2, am3, am4, am5, am6, am7, am8, am9, am10, am11, am12, am13, am14, am15, List.size_toArray, List.replicate_zero, List.length_map, List.length_append, List.length_nil, List.length_cons, List.getElem?_map, List.getElem?_toArray, List.getElem?_cons_zero, List.getElem?_cons_succ, List.getD_cons_zero, List.getD_cons_succ, List.map_cons, List.map_nil, List.toList_toArray, List.all_cons, List.all_nil, List.flatMap_cons, List.flatMap_nil, List.reverse_cons, List.reverse_nil, List.take_succ_cons, List.take_zero, List.drop_succ_cons, List.drop_zero, List.nil_append, List.cons_append, List.append_nil, Option.map_some, Option.map_none, Option.some_or, Option.none_or, Option.bind_some, Option.getD_some, Option.getD_none, Option.isNone_some, Option.isSome_some, Option.isSome_none, Option.isNone_none, if_true, if_false, beq_self_eq_true, List.length_set, List.isEmpty_cons, List.isEmpty_nil, List.mem_cons, List.not_mem_nil, Int.reduceNe, Int.reduceEq, ne_eq, not_false_eq_true, Int.reduceBEq, Int.reduceBNe, Int.reduceAdd, Int.reduceSub, Int.reduceMul, Int.reduceNeg, Int.reduceLE, Int.reduceLT, Nat.reduceEqDiff, Nat.reduceLT, Nat.reduceLeDiff, Nat.reduceAdd, Nat.reduceMul, Nat.reduceSub, reduceCtorEq, ↓reduceIte, Int.reduceToNat, tys1, tys2, tys3, tys4]
      exact ⟨⟨i + 1, by omega⟩, [], [], Ent.plain rfl rfl rfl ⟨.inr rfl, .inr rfl, .inr rfl, trivial⟩ rfl, by show bs.length - (i + 1) < bs.length - i; omega⟩
  · rename_i hlt
    have hi' : i = bs.length := by
      have : ¬ ((i : Int) < bs.length) := fun h => hlt (decide_eq_true h)
      omega
    subst hi'
    simp only [List.take_length, notX, FinR, evRes, evRVs, evRV, am1, am2, am3, am4, am5, am6, am7, am8, am9, am10, am11, am12, am13, am14, am15, List.size_toArray, List.replicate_zero, List.length_map, List.length_append, List.length_nil, List.length_cons, List.getElem?_map, List.getElem?_toArray, List.getElem?_cons_zero, List.getElem?_cons_succ, List.getD_cons_zero, List.getD_cons_succ, List.map_cons, List.map_nil, List.toList_toArray, List.all_cons, List.all_nil, List.flatMap_cons, List.flatMap_nil, List.reverse_cons, List.reverse_nil, List.take_succ_cons, List.take_zero, List.drop_succ_cons, List.drop_zero, List.nil_append, List.cons_append, List.append_nil, Option.map_some, Option.map_none, Option.some_or, Option.none_or, Option.bind_some, Option.getD_some, Option.getD_none, Option.isNone_some, Option.isSome_some, Option.isSome_none, Option.isNone_none, if_true, if_false, beq_self_eq_true, List.length_set, List.isEmpty_cons, List.isEmpty_nil, List.mem_cons, List.not_mem_nil, Int.reduceNe, Int.reduceEq, ne_eq, not_false_eq_true, Int.reduceBEq, Int.reduceBNe, Int.reduceAdd, Int.reduceSub, Int.reduceMul, Int.reduceNeg, Int.reduceLE, Int.reduceLT, Nat.reduceEqDiff, Nat.reduceLT, Nat.reduceLeDiff, Nat.reduceAdd, Nat.reduceMul, Nat.reduceSub, reduceCtorEq, ↓reduceIte, Int.reduceToNat, tys1, tys2, tys3, tys4]
    exact ⟨_, [], [], rfl, Ent.plain rfl rfl rfl trivial rfl, rfl, rfl⟩

/-! ## the document's bytes -/
theorem by24 (x : BitVec 32) : IntKind.u8.wrap (IntKind.u32.wrap ((x.toNat : Int).tdiv 16777216)) = (((x >>> 24).setWidth 8).toNat : Int) := by
  have e : (x.toNat : Int).tdiv 16777216 = ((x.toNat / 16777216 : Nat) : Int) := rfl
  have h := x.isLt
  rw [e, IntWalk.u32_in _ (by omega), IntKind.wrap_u8, BitVec.toNat_setWidth, BitVec.toNat_ushiftRight, Nat.shiftRight_eq_div_pow]; omega
theorem by16 (x : BitVec 32) : IntKind.u8.wrap ((IntKind.u32.wrap ((x.toNat : Int).tdiv 65536)).tmod 256) = (((x >>> 16).setWidth 8).toNat : Int) := by
  have e : (x.toNat : Int).tdiv 65536 = ((x.toNat / 65536 : Nat) : Int) := rfl
  have h := x.isLt
  rw [e, IntWalk.u32_in _ (by omega)]
  have e2 : ((x.toNat / 65536 : Nat) : Int).tmod 256 = ((x.toNat / 65536 % 256 : Nat) : Int) := rfl
  rw [e2, IntKind.wrap_u8, BitVec.toNat_setWidth, BitVec.toNat_ushiftRight, Nat.shiftRight_eq_div_pow]; omega
theorem by8 (x : BitVec 32) : IntKind.u8.wrap ((IntKind.u32.wrap ((x.toNat : Int).tdiv 256)).tmod 256) = (((x >>> 8).setWidth 8).toNat : Int) := by
  have e : (x.toNat : Int).tdiv 256 = ((x.toNat / 256 : Nat) : Int) := rfl
  have h := x.isLt
  rw [e, IntWalk.u32_in _ (by omega)]
  have e2 : ((x.toNat / 256 : Nat) : Int).tmod 256 = ((x.toNat / 256 % 256 : Nat) : Int) := rfl
  rw [e2, IntKind.wrap_u8, BitVec.toNat_setWidth, BitVec.toNat_ushiftRight, Nat.shiftRight_eq_div_pow]; omega
theorem by0 (x : BitVec 32) : IntKind.u8.wrap ((x.toNat : Int).tmod 256) = ((x.setWidth 8).toNat : Int) := by
  have e2 : (x.toNat : Int).tmod 256 = ((x.toNat % 256 : Nat) : Int) := rfl
  rw [e2, IntKind.wrap_u8, BitVec.toNat_setWidth]; omega

theorem refSPut (bs : List UInt8) (hl : bs.length ≤ 1000000000000) :
    AFun Try.prog 15 [.d (.sl 1 (bs.map encB))] [] (.own 0) [.own 1 ((sealed bs).map encB)] := by
  have hlen := leb_len 9 bs.length (by omega)
  refine AFun.of_walk hP Try.func15 rfl rfl rfl (by simp) rfl ?_
  have e1 : IntKind.u64.wrap (bs.length : Int) = bs.length := IntWalk.u64_in _ (by omega)
  simp only [Try.f15, e1, am1, am2, am3, am4, am5, am6, am7, am8, am9, am10, am11, am12, am13, am14, am15, List.size_toArray, List.replicate_zero, List.length_map, List.length_append, List.length_nil, List.length_cons, List.getElem?_map, List.getElem?_toArray, List.getElem?_cons_zero, List.getElem?_cons_succ, List.getD_cons_zero, List.getD_cons_succ, List.map_cons, List.map_nil, List.toList_toArray, List.all_cons, List.all_nil, List.flatMap_cons, List.flatMap_nil, List.reverse_cons, List.reverse_nil, List.take_succ_cons, List.take_zero, List.drop_succ_cons, List.drop_zero, List.nil_append, List.cons_append, List.append_nil, Option.map_some, Option.map_none, Option.some_or, Option.none_or, Option.bind_some, Option.getD_some, Option.getD_none, Option.isNone_some, Option.isSome_some, Option.isSome_none, Option.isNone_none, if_true, if_false, beq_self_eq_true, List.length_set, List.isEmpty_cons, List.isEmpty_nil, List.mem_cons, List.not_mem_nil, Int.reduceNe, Int.reduceEq, ne_eq, not_false_eq_true, Int.reduceBEq, Int.reduceBNe, Int.reduceAdd, Int.reduceSub, Int.reduceMul, Int.reduceNeg, Int.reduceLE, Int.reduceLT, Nat.reduceEqDiff, Nat.reduceLT, Nat.reduceLeDiff, Nat.reduceAdd, Nat.reduceMul, Nat.reduceSub, reduceCtorEq, ↓reduceIte, Int.reduceToNat, tys1, tys2, tys3, tys4]
  refine ACall.of (refPut [] bs.length (by simp) (by omega)) [] [] rfl (by simp) (by simp) (by simp) ⟨.inr rfl, .inl rfl, trivial⟩ trivial (.inl rfl) ?_
  simp only [am1, am2, am3, am4, am5, am6, am7, am8, am9, am10, am11, am12, am13, am14, am15, List.size_toArray, List.replicate_zero, List.length_map, List.length_append, List.length_nil, List.length_cons, List.getElem?_map, List.getElem?_toArray, List.getElem?_cons_zero, List.getElem?_cons_succ, List.getD_cons_zero, List.getD_cons_succ, List.map_cons, List.map_nil, List.toList_toArray, List.all_cons, List.all_nil, List.flatMap_cons, List.flatMap_nil, List.reverse_cons, List.reverse_nil, List.take_succ_cons, List.take_zero, List.drop_succ_cons, List.drop_zero, List.nil_append, List.cons_append, List.append_nil, Option.map_some, Option.map_none, Option.some_or, Option.none_or, Option.bind_some, Option.getD_some, Option.getD_none, Option.isNone_some, Option.isSome_some, Option.isSome_none, Option.isNone_none, if_true, if_false, beq_self_eq_true, List.length_set, List.isEmpty_cons, List.isEmpty_nil, List.mem_cons, List.not_mem_nil, Int.reduceNe, Int.reduceEq, ne_eq, not_false_eq_true, Int.reduceBEq, Int.reduceBNe, Int.reduceAdd, Int.reduceSub, Int.reduceMul, Int.reduceNeg, Int.reduceLE, Int.reduceLT, Nat.reduceEqDiff, Nat.reduceLT, Nat.reduceLeDiff, Nat.reduceAdd, Nat.reduceMul, Nat.reduceSub, reduceCtorEq, ↓reduceIte, Int.reduceToNat, tys1, tys2, tys3, tys4]
  refine ⟨by omega, ?_⟩
  rw [← List.map_append]
  refine ACall.of (refSum (leb bs.length ++ bs) (by simp; omega)) [] [1] rfl (by simp) (by simp) (by simp) ⟨.inr ⟨rfl, by simp⟩, trivial⟩ trivial (.inr ⟨trivial, by simp⟩) ?_
  simp only [w32, by24, by16, by8, by0, FinR, evRes, evRVs, evRV, am1, am2, am3, am4, am5, am6, am7, am8, am9, am10, am11, am12, am13, am14, am15, List.size_toArray, List.replicate_zero, List.length_map, List.length_append, List.length_nil, List.length_cons, List.getElem?_map, List.getElem?_toArray, List.getElem?_cons_zero, List.getElem?_cons_succ, List.getD_cons_zero, List.getD_cons_succ, List.map_cons, List.map_nil, List.toList_toArray, List.all_cons, List.all_nil, List.flatMap_cons, List.flatMap_nil, List.reverse_cons, List.reverse_nil, List.take_succ_cons, List.take_zero, List.drop_succ_cons, List.drop_zero, List.nil_append, List.cons_append, List.append_nil, Option.map_some, Option.map_none, Option.some_or, Option.none_or, Option.bind_some, Option.getD_some, Option.getD_none, Option.isNone_some, Option.isSome_some, Option.isSome_none, Option.isNone_none, if_true, if_false, beq_self_eq_true, List.length_set, List.isEmpty_cons, List.isEmpty_nil, List.mem_cons, List.not_mem_nil, Int.reduceNe, Int.reduceEq, ne_eq, not_false_eq_true, Int.reduceBEq, Int.reduceBNe, Int.reduceAdd, Int.reduceSub, Int.reduceMul, Int.reduceNeg, Int.reduceLE, Int.reduceLT, Nat.reduceEqDiff, Nat.reduceLT, Nat.reduceLeDiff, Nat.reduceAdd, Nat.reduceMul, Nat.reduceSub, reduceCtorEq, ↓reduceIte, Int.reduceToNat, tys1, tys2, tys3, tys4]
  refine ⟨by omega, ?_⟩
  refine ⟨_, [], [3], rfl, ⟨rfl, rfl, Nat.zero_le _, fun i hi => by omega, trivial, ⟨.inr ⟨by decide, ?_⟩, trivial⟩, rfl, by decide, rfl, rfl⟩, rfl, rfl⟩
  simp only [sealed, be32, List.map_append]; rfl
end Go.Proofs.Ytjaklhbifgbiaaa
