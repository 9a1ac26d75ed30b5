/- Proved here: what functions of the program compute, and plain laws. No condition. -/
import Derived.Test.YtjaklhbifgbiaaaBase
set_option linter.unusedSimpArgs false
set_option linter.unusedVariables false
namespace Go.Proofs.Ytjaklhbifgbiaaa
open Go Go.AM

def crcBit (s : BitVec 32) : BitVec 32 := (s <<< 1) ^^^ (79764919#32 * (s >>> 31))
def crcByte (s : BitVec 32) (b : UInt8) : BitVec 32 := Nat.repeat crcBit 8 (s ^^^ (b.toBitVec.setWidth 32 <<< 24))
def crcF (bs : List UInt8) : BitVec 32 := bs.foldl crcByte (BitVec.allOnes 32)
def crc (bs : List UInt8) : BitVec 32 := ~~~ crcF bs

theorem mulPoly (a : BitVec 32) : IntKind.u32.wrap (79764919 * (a.toNat : Int)) = (79764919#32 * a).toNat := by
  have := m32 79764919#32 a
  exact this

theorem crcF_succ (bs : List UInt8) (i : Nat) (h : i < bs.length) : crcF (bs.take (i + 1)) = crcByte (crcF (bs.take i)) bs[i] := by
  unfold crcF
  rw [List.take_succ_eq_append_getElem h, List.foldl_append]; rfl

theorem sealSum (bs : List UInt8) (hl : bs.length ≤ 9223372036854775807) : AFun Try.prog 11 [.d (.sl 1 (bs.map encB))] [] (w32 (crc bs)) [] := by
  refine AFun.of_walk hP Try.func11 rfl rfl rfl (by simp) rfl ?_
  simp only [Try.f11, am1, am2, am3, am4, am5, am6, am7, am8, am9, am10, am11, am12, am13, am14, am15, List.size_toArray, List.replicate_zero, List.length_map, List.length_append, List.length_nil, List.length_cons, List.getElem?_map, List.getElem?_toArray, List.getElem?_cons_zero, List.getElem?_cons_succ, List.getD_cons_zero, List.getD_cons_succ, List.map_cons, List.map_nil, List.toList_toArray, List.all_cons, List.all_nil, List.flatMap_cons, List.flatMap_nil, List.reverse_cons, List.reverse_nil, List.take_succ_cons, List.take_zero, List.drop_succ_cons, List.drop_zero, List.nil_append, List.cons_append, List.append_nil, Option.map_some, Option.map_none, Option.some_or, Option.none_or, Option.bind_some, Option.getD_some, Option.getD_none, Option.isNone_some, Option.isSome_some, Option.isSome_none, Option.isNone_none, if_true, if_false, beq_self_eq_true, List.length_set, List.isEmpty_cons, List.isEmpty_nil, List.mem_cons, List.not_mem_nil, Int.reduceNe, Int.reduceEq, ne_eq, not_false_eq_true, Int.reduceBEq, Int.reduceBNe, Int.reduceAdd, Int.reduceSub, Int.reduceMul, Int.reduceNeg, Int.reduceLE, Int.reduceLT, Nat.reduceEqDiff, Nat.reduceLT, Nat.reduceLeDiff, Nat.reduceAdd, Nat.reduceMul, Nat.reduceSub, reduceCtorEq, ↓reduceIte, Int.reduceToNat, tys1, tys2, tys3, tys4]
  refine ALoopW.intro 31 0 (ι := { i : Nat // i ≤ bs.length }) (fun i => [(3, w32 (crcF (bs.take i.1))), (7, .d (.sl 1 (bs.map encB))), (8, .d (.lit (.int .i64 bs.length))), (9, .d (.lit (.int .i64 i.1)))]) (fun _ => []) (fun i => bs.length - i.1) ⟨0, by omega⟩ [] [] ?_ (fun ⟨i, hi⟩ => ?_)
  · exact Ent.plain rfl rfl rfl ⟨.inr rfl, .inr rfl, .inr rfl, .inr rfl, trivial⟩ rfl
  simp only [w32, am1, am2, am3, am4, am5, am6, am7, am8, am9, am10, am11, am12, am13, am14, am15, List.size_toArray, List.replicate_zero, List.length_map, List.length_append, List.length_nil, List.length_cons, List.getElem?_map, List.getElem?_toArray, List.getElem?_cons_zero, List.getElem?_cons_succ, List.getD_cons_zero, List.getD_cons_succ, List.map_cons, List.map_nil, List.toList_toArray, List.all_cons, List.all_nil, List.flatMap_cons, List.flatMap_nil, List.reverse_cons, List.reverse_nil, List.take_succ_cons, List.take_zero, List.drop_succ_cons, List.drop_zero, List.nil_append, List.cons_append, List.append_nil, Option.map_some, Option.map_none, Option.some_or, Option.none_or, Option.bind_some, Option.getD_some, Option.getD_none, Option.isNone_some, Option.isSome_some, Option.isSome_none, Option.isNone_none, if_true, if_false, beq_self_eq_true, List.length_set, List.isEmpty_cons, List.isEmpty_nil, List.mem_cons, List.not_mem_nil, Int.reduceNe, Int.reduceEq, ne_eq, not_false_eq_true, Int.reduceBEq, Int.reduceBNe, Int.reduceAdd, Int.reduceSub, Int.reduceMul, Int.reduceNeg, Int.reduceLE, Int.reduceLT, Nat.reduceEqDiff, Nat.reduceLT, Nat.reduceLeDiff, Nat.reduceAdd, Nat.reduceMul, Nat.reduceSub, reduceCtorEq, ↓reduceIte, Int.reduceToNat, tys1, tys2, tys3, tys4]
  split
  · rename_i hlt
    have hlt' : i < bs.length := by simpa using hlt
    have hb : bs[i]? = some bs[i] := List.getElem?_eq_getElem hlt'
    simp only [hb, encB, Int.natCast_nonneg, cb_32, sl32, x32, am1, am2, am3, am4, am5, am6, am7, am8, am9, am10, am11, am12, am13, am14, am15, List.size_toArray, List.replicate_zero, List.length_map, List.length_append, List.length_nil, List.length_cons, List.getElem?_map, List.getElem?_toArray, List.getElem?_cons_zero, List.getElem?_cons_succ, List.getD_cons_zero, List.getD_cons_succ, List.map_cons, List.map_nil, List.toList_toArray, List.all_cons, List.all_nil, List.flatMap_cons, List.flatMap_nil, List.reverse_cons, List.reverse_nil, List.take_succ_cons, List.take_zero, List.drop_succ_cons, List.drop_zero, List.nil_append, List.cons_append, List.append_nil, Option.map_some, Option.map_none, Option.some_or, Option.none_or, Option.bind_some, Option.getD_some, Option.getD_none, Option.isNone_some, Option.isSome_some, Option.isSome_none, Option.isNone_none, if_true, if_false, beq_self_eq_true, List.length_set, List.isEmpty_cons, List.isEmpty_nil, List.mem_cons, List.not_mem_nil, Int.reduceNe, Int.reduceEq, ne_eq, not_false_eq_true, Int.reduceBEq, Int.reduceBNe, Int.reduceAdd, Int.reduceSub, Int.reduceMul, Int.reduceNeg, Int.reduceLE, Int.reduceLT, Nat.reduceEqDiff, Nat.reduceLT, Nat.reduceLeDiff, Nat.reduceAdd, Nat.reduceMul, Nat.reduceSub, reduceCtorEq, ↓reduceIte, Int.reduceToNat, tys1, tys2, tys3, tys4]
    refine ALoopW.intro 31 0 (ι := { k : Nat // k ≤ 8 }) (fun k => [(3, w32 (Nat.repeat crcBit k.1 (crcF (bs.take i) ^^^ (bs[i].toBitVec.setWidth 32 <<< 24)))), (7, .d (.sl 1 (bs.map encB))), (8, .d (.lit (.int .i64 bs.length))), (9, .d (.lit (.int .i64 i))), (18, .d (.lit (.int .i64 k.1)))]) (fun _ => []) (fun k => 8 - k.1) ⟨0, by omega⟩ [] [] ?_ (fun ⟨k, hk⟩ => ?_)
    · exact Ent.plain rfl rfl rfl ⟨.inr rfl, .inr rfl, .inr rfl, .inr rfl, .inr rfl, trivial⟩ rfl
    simp only [w32, sr32, sl32, mulPoly, x32, am1, am2, am3, am4, am5, am6, am7, am8, am9, am10, am11, am12, am13, am14, am15, List.size_toArray, List.replicate_zero, List.length_map, List.length_append, List.length_nil, List.length_cons, List.getElem?_map, List.getElem?_toArray, List.getElem?_cons_zero, List.getElem?_cons_succ, List.getD_cons_zero, List.getD_cons_succ, List.map_cons, List.map_nil, List.toList_toArray, List.all_cons, List.all_nil, List.flatMap_cons, List.flatMap_nil, List.reverse_cons, List.reverse_nil, List.take_succ_cons, List.take_zero, List.drop_succ_cons, List.drop_zero, List.nil_append, List.cons_append, List.append_nil, Option.map_some, Option.map_none, Option.some_or, Option.none_or, Option.bind_some, Option.getD_some, Option.getD_none, Option.isNone_some, Option.isSome_some, Option.isSome_none, Option.isNone_none, if_true, if_false, beq_self_eq_true, List.length_set, List.isEmpty_cons, List.isEmpty_nil, List.mem_cons, List.not_mem_nil, Int.reduceNe, Int.reduceEq, ne_eq, not_false_eq_true, Int.reduceBEq, Int.reduceBNe, Int.reduceAdd, Int.reduceSub, Int.reduceMul, Int.reduceNeg, Int.reduceLE, Int.reduceLT, Nat.reduceEqDiff, Nat.reduceLT, Nat.reduceLeDiff, Nat.reduceAdd, Nat.reduceMul, Nat.reduceSub, reduceCtorEq, ↓reduceIte, Int.reduceToNat, tys1, tys2, tys3, tys4]
    split
    · rename_i hk8
      have hk' : k < 8 := by have := of_decide_eq_true hk8; omega
      have e1 : IntKind.i64.wrap ((k : Int) + 1) = ((k + 1 : Nat) : Int) := by rw [IntWalk.i64_in _ (by omega)]; simp
      rw [e1]
      exact ⟨⟨k + 1, by omega⟩, [], [], Ent.plain rfl rfl rfl ⟨.inr rfl, .inr rfl, .inr rfl, .inr rfl, .inr rfl, trivial⟩ rfl, by show 8 - (k + 1) < 8 - k; omega⟩
    · rename_i hk8
      have hk' : k = 8 := by
        have : ¬ ((k : Int) < 8) := fun h => hk8 (decide_eq_true h)
        omega
      subst hk'
      have e1 : IntKind.i64.wrap ((i : Int) + 1) = ((i + 1 : Nat) : Int) := by rw [IntWalk.i64_in _ (by omega)]; simp
      have e2 : Nat.repeat crcBit 8 (crcF (bs.take i) ^^^ (bs[i].toBitVec.setWidth 32 <<< 24)) = crcF (bs.take (i + 1)) := (crcF_succ bs i hlt').symm
      rw [e1, e2]
      exact ⟨⟨i + 1, by omega⟩, [], [], Ent.plain rfl rfl rfl ⟨.inr rfl, .inr rfl, .inr rfl, .inr rfl, trivial⟩ rfl, by show bs.length - (i + 1) < bs.length - i; omega⟩
  · rename_i hlt
    have hi' : i = bs.length := by
      have : ¬ ((i : Int) < bs.length) := fun h => hlt (decide_eq_true h)
      omega
    subst hi'
    simp only [List.take_length, not32, FinR, evRes, evRVs, evRV, am1, am2, am3, am4, am5, am6, am7, am8, am9, am10, am11, am12, am13, am14, am15, List.size_toArray, List.replicate_zero, List.length_map, List.length_append, List.length_nil, List.length_cons, List.getElem?_map, List.getElem?_toArray, List.getElem?_cons_zero, List.getElem?_cons_succ, List.getD_cons_zero, List.getD_cons_succ, List.map_cons, List.map_nil, List.toList_toArray, List.all_cons, List.all_nil, List.flatMap_cons, List.flatMap_nil, List.reverse_cons, List.reverse_nil, List.take_succ_cons, List.take_zero, List.drop_succ_cons, List.drop_zero, List.nil_append, List.cons_append, List.append_nil, Option.map_some, Option.map_none, Option.some_or, Option.none_or, Option.bind_some, Option.getD_some, Option.getD_none, Option.isNone_some, Option.isSome_some, Option.isSome_none, Option.isNone_none, if_true, if_false, beq_self_eq_true, List.length_set, List.isEmpty_cons, List.isEmpty_nil, List.mem_cons, List.not_mem_nil, Int.reduceNe, Int.reduceEq, ne_eq, not_false_eq_true, Int.reduceBEq, Int.reduceBNe, Int.reduceAdd, Int.reduceSub, Int.reduceMul, Int.reduceNeg, Int.reduceLE, Int.reduceLT, Nat.reduceEqDiff, Nat.reduceLT, Nat.reduceLeDiff, Nat.reduceAdd, Nat.reduceMul, Nat.reduceSub, reduceCtorEq, ↓reduceIte, Int.reduceToNat, tys1, tys2, tys3, tys4]
    exact ⟨_, [], [], rfl, Ent.plain rfl rfl rfl trivial rfl, rfl, rfl⟩
end Go.Proofs.Ytjaklhbifgbiaaa
