/- Proved here: what functions of the program compute, and plain laws. No condition. -/
import Derived.Test.YtjaklhbifgbiaaaPut
import Derived.Test.YtjaklhbifgbiaaaSum
set_option linter.unusedSimpArgs false
set_option linter.unusedVariables false
namespace Go.Proofs.Ytjaklhbifgbiaaa
open Go Go.AM

def be32 (x : BitVec 32) : List UInt8 := [⟨(x >>> 24).setWidth 8⟩, ⟨(x >>> 16).setWidth 8⟩, ⟨(x >>> 8).setWidth 8⟩, ⟨x.setWidth 8⟩]
def sealed (bs : List UInt8) : List UInt8 := (leb bs.length ++ bs) ++ be32 (crc (leb bs.length ++ bs))

theorem sealPut (bs : List UInt8) (hl : bs.length ≤ 1000000000000) :
    AFun Try.prog 14 [.d (.sl 1 (bs.map encB))] [] (.own 0) [.own 1 ((sealed bs).map encB)] := by
  have hlen := leb_len 9 bs.length (by omega)
  refine AFun.of_walk hP Try.func14 rfl rfl rfl (by simp) rfl ?_
  have e1 : IntKind.u64.wrap (bs.length : Int) = bs.length := IntWalk.u64_in _ (by omega)
  simp only [Try.f14, e1, am1, am2, am3, am4, am5, am6, am7, am8, am9, am10, am11, am12, am13, am14, am15, List.size_toArray, List.replicate_zero, List.length_map, List.length_append, List.length_nil, List.length_cons, List.getElem?_map, List.getElem?_toArray, List.getElem?_cons_zero, List.getElem?_cons_succ, List.getD_cons_zero, List.getD_cons_succ, List.map_cons, List.map_nil, List.toList_toArray, List.all_cons, List.all_nil, List.flatMap_cons, List.flatMap_nil, List.reverse_cons, List.reverse_nil, List.take_succ_cons, List.take_zero, List.drop_succ_cons, List.drop_zero, List.nil_append, List.cons_append, List.append_nil, Option.map_some, Option.map_none, Option.some_or, Option.none_or, Option.bind_some, Option.getD_some, Option.getD_none, Option.isNone_some, Option.isSome_some, Option.isSome_none, Option.isNone_none, if_true, if_false, beq_self_eq_true, List.length_set, List.isEmpty_cons, List.isEmpty_nil, List.mem_cons, List.not_mem_nil, Int.reduceNe, Int.reduceEq, ne_eq, not_false_eq_true, Int.reduceBEq, Int.reduceBNe, Int.reduceAdd, Int.reduceSub, Int.reduceMul, Int.reduceNeg, Int.reduceLE, Int.reduceLT, Nat.reduceEqDiff, Nat.reduceLT, Nat.reduceLeDiff, Nat.reduceAdd, Nat.reduceMul, Nat.reduceSub, reduceCtorEq, ↓reduceIte, Int.reduceToNat, tys1, tys2, tys3, tys4]
  refine ACall.of (octsPut [] bs.length (by simp) (by omega)) [] [] rfl (by simp) (by simp) (by simp) ⟨.inr rfl, .inl rfl, trivial⟩ trivial (.inl rfl) ?_
  simp only [am1, am2, am3, am4, am5, am6, am7, am8, am9, am10, am11, am12, am13, am14, am15, List.size_toArray, List.replicate_zero, List.length_map, List.length_append, List.length_nil, List.length_cons, List.getElem?_map, List.getElem?_toArray, List.getElem?_cons_zero, List.getElem?_cons_succ, List.getD_cons_zero, List.getD_cons_succ, List.map_cons, List.map_nil, List.toList_toArray, List.all_cons, List.all_nil, List.flatMap_cons, List.flatMap_nil, List.reverse_cons, List.reverse_nil, List.take_succ_cons, List.take_zero, List.drop_succ_cons, List.drop_zero, List.nil_append, List.cons_append, List.append_nil, Option.map_some, Option.map_none, Option.some_or, Option.none_or, Option.bind_some, Option.getD_some, Option.getD_none, Option.isNone_some, Option.isSome_some, Option.isSome_none, Option.isNone_none, if_true, if_false, beq_self_eq_true, List.length_set, List.isEmpty_cons, List.isEmpty_nil, List.mem_cons, List.not_mem_nil, Int.reduceNe, Int.reduceEq, ne_eq, not_false_eq_true, Int.reduceBEq, Int.reduceBNe, Int.reduceAdd, Int.reduceSub, Int.reduceMul, Int.reduceNeg, Int.reduceLE, Int.reduceLT, Nat.reduceEqDiff, Nat.reduceLT, Nat.reduceLeDiff, Nat.reduceAdd, Nat.reduceMul, Nat.reduceSub, reduceCtorEq, ↓reduceIte, Int.reduceToNat, tys1, tys2, tys3, tys4]
  refine ⟨by omega, ?_⟩
  rw [← List.map_append]
  refine ACall.of (sealSum (leb bs.length ++ bs) (by simp; omega)) [] [1] rfl (by simp) (by simp) (by simp) ⟨.inr ⟨rfl, by simp⟩, trivial⟩ trivial (.inr ⟨trivial, by simp⟩) ?_
  simp only [w32, sr32, c32_8, FinR, evRes, evRVs, evRV, am1, am2, am3, am4, am5, am6, am7, am8, am9, am10, am11, am12, am13, am14, am15, List.size_toArray, List.replicate_zero, List.length_map, List.length_append, List.length_nil, List.length_cons, List.getElem?_map, List.getElem?_toArray, List.getElem?_cons_zero, List.getElem?_cons_succ, List.getD_cons_zero, List.getD_cons_succ, List.map_cons, List.map_nil, List.toList_toArray, List.all_cons, List.all_nil, List.flatMap_cons, List.flatMap_nil, List.reverse_cons, List.reverse_nil, List.take_succ_cons, List.take_zero, List.drop_succ_cons, List.drop_zero, List.nil_append, List.cons_append, List.append_nil, Option.map_some, Option.map_none, Option.some_or, Option.none_or, Option.bind_some, Option.getD_some, Option.getD_none, Option.isNone_some, Option.isSome_some, Option.isSome_none, Option.isNone_none, if_true, if_false, beq_self_eq_true, List.length_set, List.isEmpty_cons, List.isEmpty_nil, List.mem_cons, List.not_mem_nil, Int.reduceNe, Int.reduceEq, ne_eq, not_false_eq_true, Int.reduceBEq, Int.reduceBNe, Int.reduceAdd, Int.reduceSub, Int.reduceMul, Int.reduceNeg, Int.reduceLE, Int.reduceLT, Nat.reduceEqDiff, Nat.reduceLT, Nat.reduceLeDiff, Nat.reduceAdd, Nat.reduceMul, Nat.reduceSub, reduceCtorEq, ↓reduceIte, Int.reduceToNat, tys1, tys2, tys3, tys4]
  refine ⟨by omega, ?_⟩
  refine ⟨_, [], [3], rfl, ⟨rfl, rfl, Nat.zero_le _, fun i hi => by omega, trivial, ⟨.inr ⟨by decide, ?_⟩, trivial⟩, rfl, by decide, rfl, rfl⟩, rfl, rfl⟩
  simp only [sealed, be32, List.map_append]; rfl

theorem sealed_len (bs : List UInt8) : (sealed bs).length = (leb bs.length).length + bs.length + 4 := by simp [sealed, be32]; omega
end Go.Proofs.Ytjaklhbifgbiaaa
