/- Proved here: what functions of the program compute, and plain laws. No condition. -/
import Derived.Test.YtjaklhbifgbiaaaBurst2
set_option linter.unusedSimpArgs false
set_option linter.unusedVariables false
namespace Go.Proofs.Ytjaklhbifgbiaaa
open Go Go.AM

theorem bit_and (m i : Nat) (hi : i < 32) (hm : m < 4294967296) : (evBits .and .u32 ((m : Int).fdiv (2 ^ min i IntKind.u32.bits)) 1 == 1) = decide (m / 2 ^ i % 2 = 1) := by
  have e1 : min i IntKind.u32.bits = i := by show min i 32 = i; omega
  rw [e1, fdiv_nat, Nat.shiftRight_eq_div_pow]
  have hlt : m / 2 ^ i < 4294967296 := Nat.lt_of_le_of_lt (Nat.div_le_self _ _) hm
  have g1 : (1 : Int) = (((1#32).toNat : Nat) : Int) := by decide
  have g2 : ((m / 2 ^ i : Nat) : Int) = (((BitVec.ofNat 32 (m / 2 ^ i)).toNat : Nat) : Int) := by rw [BitVec.toNat_ofNat, Nat.mod_eq_of_lt hlt]
  have e2 : evBits .and .u32 ((m / 2 ^ i : Nat) : Int) 1 = ((m / 2 ^ i % 2 : Nat) : Int) := by
    rw [g1, g2, n32, BitVec.toNat_and, BitVec.toNat_ofNat, Nat.mod_eq_of_lt (show m / 2 ^ i < 2 ^ 32 by omega)]
    show ((m / 2 ^ i &&& 1 : Nat) : Int) = _
    rw [Nat.and_one_is_mod]
  rw [e2, Bool.eq_iff_iff, beq_iff_eq, decide_eq_true_eq]
  omega

theorem sh128 (r : Nat) (hr : r < 8) : (128 : Int).fdiv (2 ^ min r IntKind.u8.bits) = (((UInt8.ofNat (128 >>> r)).toNat : Nat) : Int) := by
  have key : ∀ r, r < 8 → (128 : Int).fdiv (2 ^ min r IntKind.u8.bits) = (((UInt8.ofNat (128 >>> r)).toNat : Nat) : Int) := by decide
  exact key r hr

theorem xorB (a b : UInt8) : evBits .xor .u8 (a.toNat : Int) (b.toNat : Int) = (((a ^^^ b).toNat : Nat) : Int) := x8 a.toBitVec b.toBitVec

theorem mapSet (p : List UInt8) (q : Nat) (v : UInt8) : (p.map encB).set q [.lit (.int .u8 ((v.toNat : Nat) : Int))] = (p.set q v).map encB := by
  rw [List.map_set]; rfl

set_option maxRecDepth 8000 in
theorem sealBursts (b : List UInt8) (at' bits : Int) (h0 : b.length ≤ 9223372036854775807) (ha : 0 ≤ at' ∧ at' ≤ 65535) (hbits : 0 ≤ bits ∧ bits ≤ 4294967295) :
    AFun Try.prog 7 [byts b, .d (.lit (.int .u16 at')), .d (.lit (.int .u32 bits))] [] (bool true) [] := by
  refine AFun.of_walk hP Try.func7 rfl rfl rfl (by simp) rfl ?_
  obtain ⟨a, rfl⟩ : ∃ a : Nat, at' = a := ⟨at'.toNat, by omega⟩
  obtain ⟨m, rfl⟩ : ∃ m : Nat, bits = m := ⟨bits.toNat, by omega⟩
  have hx : (b.take 100).length ≤ 100 := by simp; omega
  have min100 : (if (100 : Int) < b.length then (100 : Int) else b.length) = ((min b.length 100 : Nat) : Int) := by
    by_cases h : 100 < b.length
    · rw [if_pos (by omega), Nat.min_eq_right (by omega)]; rfl
    · rw [if_neg (by omega), Nat.min_eq_left (by omega)]
  have tm : b.take (min b.length 100) = b.take 100 := by rw [Nat.min_comm]; exact List.take_eq_take_min.symm
  simp only [Try.f7, am1, am2, am3, am4, am5, am6, am7, am8, am9, am10, am11, am12, am13, am14, am15, List.size_toArray, List.replicate_zero, List.length_map, List.length_append, List.length_nil, List.length_cons, List.getElem?_map, List.getElem?_toArray, List.getElem?_cons_zero, List.getElem?_cons_succ, List.getD_cons_zero, List.getD_cons_succ, List.map_cons, List.map_nil, List.toList_toArray, List.all_cons, List.all_nil, List.flatMap_cons, List.flatMap_nil, List.reverse_cons, List.reverse_nil, List.take_succ_cons, List.take_zero, List.drop_succ_cons, List.drop_zero, List.nil_append, List.cons_append, List.append_nil, Option.map_some, Option.map_none, Option.some_or, Option.none_or, Option.bind_some, Option.getD_some, Option.getD_none, Option.isNone_some, Option.isSome_some, Option.isSome_none, Option.isNone_none, if_true, if_false, beq_self_eq_true, List.length_set, List.isEmpty_cons, List.isEmpty_nil, List.mem_cons, List.not_mem_nil, Int.reduceNe, Int.reduceEq, ne_eq, not_false_eq_true, Int.reduceBEq, Int.reduceBNe, Int.reduceAdd, Int.reduceSub, Int.reduceMul, Int.reduceNeg, Int.reduceLE, Int.reduceLT, Nat.reduceEqDiff, Nat.reduceLT, Nat.reduceLeDiff, Nat.reduceAdd, Nat.reduceMul, Nat.reduceSub, reduceCtorEq, ↓reduceIte, Int.reduceToNat, tys1, tys2, tys3, tys4]
  refine ACall.of (shown03) [] [] rfl (by simp) (by simp) (by simp) (by repeat' (first | exact trivial | exact .inl rfl | exact .inr rfl | exact .inr ⟨rfl, by simp⟩ | exact .inr ⟨rfl, rfl, by simp⟩ | apply And.intro)) (by repeat' (first | exact trivial | rfl | exact (tkC_ren _ _).symm | (simp; done) | apply And.intro)) (by first | exact .inl rfl | (refine .inr ⟨trivial, ?_⟩; first | (intro row h; rcases List.mem_singleton.1 h with rfl; exact nvB _) | (intro row h; cases h; done) | (simp; done)) | exact .inr ⟨by simp [nvP, nvP.nvPs, nvD], by simp [nvRow, nvD, nvP]⟩) ?_
  simp only [byts, min100, tm, Int.natCast_nonneg, Int.toNat_natCast, ← List.map_take, List.drop_zero, am1, am2, am3, am4, am5, am6, am7, am8, am9, am10, am11, am12, am13, am14, am15, List.size_toArray, List.replicate_zero, List.length_map, List.length_append, List.length_nil, List.length_cons, List.getElem?_map, List.getElem?_toArray, List.getElem?_cons_zero, List.getElem?_cons_succ, List.getD_cons_zero, List.getD_cons_succ, List.map_cons, List.map_nil, List.toList_toArray, List.all_cons, List.all_nil, List.flatMap_cons, List.flatMap_nil, List.reverse_cons, List.reverse_nil, List.take_succ_cons, List.take_zero, List.drop_succ_cons, List.drop_zero, List.nil_append, List.cons_append, List.append_nil, Option.map_some, Option.map_none, Option.some_or, Option.none_or, Option.bind_some, Option.getD_some, Option.getD_none, Option.isNone_some, Option.isSome_some, Option.isSome_none, Option.isNone_none, if_true, if_false, beq_self_eq_true, List.length_set, List.isEmpty_cons, List.isEmpty_nil, List.mem_cons, List.not_mem_nil, Int.reduceNe, Int.reduceEq, ne_eq, not_false_eq_true, Int.reduceBEq, Int.reduceBNe, Int.reduceAdd, Int.reduceSub, Int.reduceMul, Int.reduceNeg, Int.reduceLE, Int.reduceLT, Nat.reduceEqDiff, Nat.reduceLT, Nat.reduceLeDiff, Nat.reduceAdd, Nat.reduceMul, Nat.reduceSub, reduceCtorEq, ↓reduceIte, Int.reduceToNat, tys1, tys2, tys3, tys4]
  refine ⟨by omega, ?_⟩
  generalize b.take 100 = x at *
  refine ACall.of (sealPut x (by omega)) [] [] rfl (by simp) (by simp) (by simp) (by repeat' (first | exact trivial | exact .inl rfl | exact .inr rfl | exact .inr ⟨rfl, by simp⟩ | exact .inr ⟨rfl, rfl, by simp⟩ | apply And.intro)) (by repeat' (first | exact trivial | rfl | exact (tkC_ren _ _).symm | (simp; done) | apply And.intro)) (by first | exact .inl rfl | (refine .inr ⟨trivial, ?_⟩; first | (intro row h; rcases List.mem_singleton.1 h with rfl; exact nvB _) | (intro row h; cases h; done) | (simp; done)) | exact .inr ⟨by simp [nvP, nvP.nvPs, nvD], by simp [nvRow, nvD, nvP]⟩) ?_
  obtain ⟨s1, s2⟩ := sealed_short x (by omega)
  have sl : (sealed x).length = x.length + 5 := by rw [s1]; simp [be32]
  have w1 : IntKind.i64.wrap ((x.length : Int) + 5) = ((x.length + 5 : Nat) : Int) := by rw [IntWalk.i64_in _ (by omega)]; omega
  have w2 : IntKind.i64.wrap (a : Int) = a := IntWalk.i64_in _ (by omega)
  have w3 : IntKind.i64.wrap (((x.length + 5 : Nat) : Int) - 1) = ((x.length + 4 : Nat) : Int) := by rw [IntWalk.i64_in _ (by omega)]; omega
  have w4 : IntKind.i64.wrap (8 * ((x.length + 4 : Nat) : Int)) = ((8 * (x.length + 4) : Nat) : Int) := by rw [IntWalk.i64_in _ (by omega)]; omega
  have w5 : (a : Int).tmod ((8 * (x.length + 4) : Nat) : Int) = ((a % (8 * (x.length + 4)) : Nat) : Int) := rfl
  have hmod := Nat.mod_lt a (show 0 < 8 * (x.length + 4) by omega)
  have w6 : IntKind.i64.wrap (8 + ((a % (8 * (x.length + 4)) : Nat) : Int)) = ((8 + a % (8 * (x.length + 4)) : Nat) : Int) := by rw [IntWalk.i64_in _ (by omega)]; omega
  have w7 : ¬ (((8 * (x.length + 4) : Nat) : Int) = 0) := by omega
  simp only [sl, w1, w2, w3, w4, w5, w6, w7, bne_self_eq_false, am1, am2, am3, am4, am5, am6, am7, am8, am9, am10, am11, am12, am13, am14, am15, List.size_toArray, List.replicate_zero, List.length_map, List.length_append, List.length_nil, List.length_cons, List.getElem?_map, List.getElem?_toArray, List.getElem?_cons_zero, List.getElem?_cons_succ, List.getD_cons_zero, List.getD_cons_succ, List.map_cons, List.map_nil, List.toList_toArray, List.all_cons, List.all_nil, List.flatMap_cons, List.flatMap_nil, List.reverse_cons, List.reverse_nil, List.take_succ_cons, List.take_zero, List.drop_succ_cons, List.drop_zero, List.nil_append, List.cons_append, List.append_nil, Option.map_some, Option.map_none, Option.some_or, Option.none_or, Option.bind_some, Option.getD_some, Option.getD_none, Option.isNone_some, Option.isSome_some, Option.isSome_none, Option.isNone_none, if_true, if_false, beq_self_eq_true, List.length_set, List.isEmpty_cons, List.isEmpty_nil, List.mem_cons, List.not_mem_nil, Int.reduceNe, Int.reduceEq, ne_eq, not_false_eq_true, Int.reduceBEq, Int.reduceBNe, Int.reduceAdd, Int.reduceSub, Int.reduceMul, Int.reduceNeg, Int.reduceLE, Int.reduceLT, Nat.reduceEqDiff, Nat.reduceLT, Nat.reduceLeDiff, Nat.reduceAdd, Nat.reduceMul, Nat.reduceSub, reduceCtorEq, ↓reduceIte, Int.reduceToNat, tys1, tys2, tys3, tys4]
  generalize hpl : 8 + a % (8 * (x.length + 4)) = place at *
  refine ALoopW.intro 102 0 (ι := { z : Nat × List UInt8 × BitVec 32 // z.1 ≤ 32 ∧ z.2.1.length = x.length + 5 ∧ (∃ body, z.2.1 = UInt8.ofNat x.length :: body) ∧ Phi z.2.1 = Rsd ^^^ T (8 * z.2.1.length - place) z.2.2 ∧ (∀ j, j < 32 - z.1 → z.2.2.getLsbD j = false) ∧ (z.2.2 = 0#32 → z.2.1 = sealed x) })
    (fun z => [(2, .d (.lit (.int .u32 m))), (7, .d (.lit (.bool true))), (8, .d (.sl 1 (x.map encB))), (9, .own 0), (10, .d (.lit (.int .i64 place))), (11, .d (.lit (.bool (decide (z.1.2.2 ≠ 0#32))))), (39, .d (.lit (.int .i64 z.1.1)))]) (fun z => [.own 1 (z.1.2.1.map encB)]) (fun z => 32 - z.1.1)
    ⟨(0, sealed x, 0#32), by omega, sl, ⟨_, s1⟩, by rw [s2, T_zero, BitVec.xor_zero], by intro j _; simp, fun _ => rfl⟩ [] [0] ?_ (fun ⟨⟨i, p, w⟩, hi, hpl2, ⟨body, hbody⟩, hPhi, hw, hz⟩ => ?_)
  · exact ⟨rfl, rfl, by simp, (fun i hi => absurd hi (Nat.not_lt_zero _)), ⟨.inr rfl, .inr rfl, .inr rfl, .inr rfl, .inr rfl, .inr rfl, .inr rfl, trivial⟩, ⟨.inr ⟨by decide, rfl⟩, trivial⟩, rfl, by decide, rfl, rfl⟩
  simp only at hi hpl2 hbody hPhi hw hz
  rcases Nat.lt_or_ge i 32 with hlt | hge
  · have hlt2 : ((i : Int) < 32) := by omega
    have e1 : IntKind.i64.wrap ((i : Int) + 1) = ((i + 1 : Nat) : Int) := by rw [IntWalk.i64_in _ (by omega)]; simp
    have e2 : IntKind.i64.wrap ((place : Int) + (i : Int)) = ((place + i : Nat) : Int) := by rw [IntWalk.i64_in _ (by omega)]; omega
    have e3 := bit_and m i hlt (by omega)
    have e4 : IntKind.i64.wrap (8 * ((x.length + 5 : Nat) : Int)) = ((8 * (x.length + 5) : Nat) : Int) := by rw [IntWalk.i64_in _ (by omega)]; omega
    by_cases hbit : m / 2 ^ i % 2 = 1
    · have hbd : decide (m / 2 ^ i % 2 = 1) = true := decide_eq_true hbit
      rw [hbd] at e3
      by_cases hk : place + i < 8 * (x.length + 5)
      · have hkI : (((place + i : Nat) : Int) < ((8 * (x.length + 5) : Nat) : Int)) := by omega
        have e5 : IntKind.i64.wrap (((place + i : Nat) : Int).tdiv 8) = (((place + i) / 8 : Nat) : Int) := IntWalk.i64_in _ (by have : ((place + i : Nat) : Int).tdiv 8 = (((place + i) / 8 : Nat) : Int) := rfl; omega)
        have e6 : ((place + i : Nat) : Int).tmod 8 = (((place + i) % 8 : Nat) : Int) := rfl
        have hq : (place + i) / 8 < p.length := by omega
        have hq0 : 0 < (place + i) / 8 := by omega
        have hqI : ((((place + i) / 8 : Nat) : Int) < ((x.length + 5 : Nat) : Int)) := by omega
        have hb1 : p[(place + i) / 8]? = some p[(place + i) / 8] := List.getElem?_eq_getElem hq
        have e7 := sh128 ((place + i) % 8) (Nat.mod_lt _ (by omega))
        obtain ⟨f1, f2, f3⟩ := burst_step p w place i hlt (by omega) hPhi hw hq
        simp only [hlt2, e1, e2, e3, e4, e5, e6, e7, hkI, hqI, hb1, hpl2, encB, xorB, Int.natCast_nonneg, Int.toNat_natCast, am1, am2, am3, am4, am5, am6, am7, am8, am9, am10, am11, am12, am13, am14, am15, List.size_toArray, List.replicate_zero, List.length_map, List.length_append, List.length_nil, List.length_cons, List.getElem?_map, List.getElem?_toArray, List.getElem?_cons_zero, List.getElem?_cons_succ, List.getD_cons_zero, List.getD_cons_succ, List.map_cons, List.map_nil, List.toList_toArray, List.all_cons, List.all_nil, List.flatMap_cons, List.flatMap_nil, List.reverse_cons, List.reverse_nil, List.take_succ_cons, List.take_zero, List.drop_succ_cons, List.drop_zero, List.nil_append, List.cons_append, List.append_nil, Option.map_some, Option.map_none, Option.some_or, Option.none_or, Option.bind_some, Option.getD_some, Option.getD_none, Option.isNone_some, Option.isSome_some, Option.isSome_none, Option.isNone_none, if_true, if_false, beq_self_eq_true, List.length_set, List.isEmpty_cons, List.isEmpty_nil, List.mem_cons, List.not_mem_nil, Int.reduceNe, Int.reduceEq, ne_eq, not_false_eq_true, Int.reduceBEq, Int.reduceBNe, Int.reduceAdd, Int.reduceSub, Int.reduceMul, Int.reduceNeg, Int.reduceLE, Int.reduceLT, Nat.reduceEqDiff, Nat.reduceLT, Nat.reduceLeDiff, Nat.reduceAdd, Nat.reduceMul, Nat.reduceSub, reduceCtorEq, ↓reduceIte, Int.reduceToNat, tys1, tys2, tys3, tys4]
        have hd : decide ((w ^^^ 0x80000000#32 >>> i) ≠ 0#32) = true := decide_eq_true f3
        refine ⟨by kernel_rfl, ⟨(i + 1, p.set ((place + i) / 8) (p[(place + i) / 8] ^^^ UInt8.ofNat (128 >>> ((place + i) % 8))), w ^^^ 0x80000000#32 >>> i), by omega, by rw [List.length_set]; exact hpl2, ⟨body.set ((place + i) / 8 - 1) (p[(place + i) / 8] ^^^ UInt8.ofNat (128 >>> ((place + i) % 8))), ?_⟩, by rw [List.length_set]; exact f1, f2, fun h => absurd h f3⟩, [], [0], ⟨rfl, rfl, by simp, (fun i hi => absurd hi (Nat.not_lt_zero _)), ⟨.inr ?_, .inr ?_, .inr ?_, .inr ?_, .inr ?_, .inr ?_, .inr ?_, trivial⟩, ⟨.inr ⟨by decide, ?_⟩, trivial⟩, rfl, by decide, rfl, rfl⟩, by show 32 - (i + 1) < 32 - i; omega⟩
        · simp only
          generalize p[(place + i) / 8] ^^^ UInt8.ofNat (128 >>> ((place + i) % 8)) = v
          rw [hbody]
          obtain ⟨k, hk⟩ : ∃ k, (place + i) / 8 = k + 1 := ⟨(place + i) / 8 - 1, by omega⟩
          rw [hk]; rfl
        · rfl
        · rfl
        · rfl
        · rfl
        · rfl
        · exact congrArg (fun t => PV.d (.lit (.bool t))) hd.symm
        · rfl
        · exact congrArg (Row.own 1) (mapSet p ((place + i) / 8) (p[(place + i) / 8] ^^^ UInt8.ofNat (128 >>> ((place + i) % 8))))
      · have hkI : ¬ (((place + i : Nat) : Int) < ((8 * (x.length + 5) : Nat) : Int)) := by omega
        simp only [hlt2, e1, e2, e3, e4, hkI, hpl2, Int.natCast_nonneg, Int.toNat_natCast, am1, am2, am3, am4, am5, am6, am7, am8, am9, am10, am11, am12, am13, am14, am15, List.size_toArray, List.replicate_zero, List.length_map, List.length_append, List.length_nil, List.length_cons, List.getElem?_map, List.getElem?_toArray, List.getElem?_cons_zero, List.getElem?_cons_succ, List.getD_cons_zero, List.getD_cons_succ, List.map_cons, List.map_nil, List.toList_toArray, List.all_cons, List.all_nil, List.flatMap_cons, List.flatMap_nil, List.reverse_cons, List.reverse_nil, List.take_succ_cons, List.take_zero, List.drop_succ_cons, List.drop_zero, List.nil_append, List.cons_append, List.append_nil, Option.map_some, Option.map_none, Option.some_or, Option.none_or, Option.bind_some, Option.getD_some, Option.getD_none, Option.isNone_some, Option.isSome_some, Option.isSome_none, Option.isNone_none, if_true, if_false, beq_self_eq_true, List.length_set, List.isEmpty_cons, List.isEmpty_nil, List.mem_cons, List.not_mem_nil, Int.reduceNe, Int.reduceEq, ne_eq, not_false_eq_true, Int.reduceBEq, Int.reduceBNe, Int.reduceAdd, Int.reduceSub, Int.reduceMul, Int.reduceNeg, Int.reduceLE, Int.reduceLT, Nat.reduceEqDiff, Nat.reduceLT, Nat.reduceLeDiff, Nat.reduceAdd, Nat.reduceMul, Nat.reduceSub, reduceCtorEq, ↓reduceIte, Int.reduceToNat, tys1, tys2, tys3, tys4]
        exact ⟨⟨(i + 1, p, w), by omega, hpl2, ⟨body, hbody⟩, hPhi, fun j hj => hw j (by omega), hz⟩, [], [0], ⟨rfl, rfl, by simp, (fun i hi => absurd hi (Nat.not_lt_zero _)), ⟨.inr rfl, .inr rfl, .inr rfl, .inr rfl, .inr rfl, .inr rfl, .inr rfl, trivial⟩, ⟨.inr ⟨by decide, rfl⟩, trivial⟩, rfl, by decide, rfl, rfl⟩, by show 32 - (i + 1) < 32 - i; omega⟩
    · have hbd : decide (m / 2 ^ i % 2 = 1) = false := decide_eq_false hbit
      rw [hbd] at e3
      simp only [hlt2, e1, e2, e3, Int.natCast_nonneg, Int.toNat_natCast, am1, am2, am3, am4, am5, am6, am7, am8, am9, am10, am11, am12, am13, am14, am15, List.size_toArray, List.replicate_zero, List.length_map, List.length_append, List.length_nil, List.length_cons, List.getElem?_map, List.getElem?_toArray, List.getElem?_cons_zero, List.getElem?_cons_succ, List.getD_cons_zero, List.getD_cons_succ, List.map_cons, List.map_nil, List.toList_toArray, List.all_cons, List.all_nil, List.flatMap_cons, List.flatMap_nil, List.reverse_cons, List.reverse_nil, List.take_succ_cons, List.take_zero, List.drop_succ_cons, List.drop_zero, List.nil_append, List.cons_append, List.append_nil, Option.map_some, Option.map_none, Option.some_or, Option.none_or, Option.bind_some, Option.getD_some, Option.getD_none, Option.isNone_some, Option.isSome_some, Option.isSome_none, Option.isNone_none, if_true, if_false, beq_self_eq_true, List.length_set, List.isEmpty_cons, List.isEmpty_nil, List.mem_cons, List.not_mem_nil, Int.reduceNe, Int.reduceEq, ne_eq, not_false_eq_true, Int.reduceBEq, Int.reduceBNe, Int.reduceAdd, Int.reduceSub, Int.reduceMul, Int.reduceNeg, Int.reduceLE, Int.reduceLT, Nat.reduceEqDiff, Nat.reduceLT, Nat.reduceLeDiff, Nat.reduceAdd, Nat.reduceMul, Nat.reduceSub, reduceCtorEq, ↓reduceIte, Int.reduceToNat, tys1, tys2, tys3, tys4]
      exact ⟨⟨(i + 1, p, w), by omega, hpl2, ⟨body, hbody⟩, hPhi, fun j hj => hw j (by omega), hz⟩, [], [0], ⟨rfl, rfl, by simp, (fun i hi => absurd hi (Nat.not_lt_zero _)), ⟨.inr rfl, .inr rfl, .inr rfl, .inr rfl, .inr rfl, .inr rfl, .inr rfl, trivial⟩, ⟨.inr ⟨by decide, rfl⟩, trivial⟩, rfl, by decide, rfl, rfl⟩, by show 32 - (i + 1) < 32 - i; omega⟩
  · have hlt2 : ¬ ((i : Int) < 32) := by omega
    have hbl : body.length = x.length + 4 := by rw [hbody] at hpl2; simpa using hpl2
    have hts := takeSeal_short x.length body (by omega) hbl
    rw [← hbody] at hts
    have hc := sealTake p (by omega)
    simp only [hlt2, am1, am2, am3, am4, am5, am6, am7, am8, am9, am10, am11, am12, am13, am14, am15, List.size_toArray, List.replicate_zero, List.length_map, List.length_append, List.length_nil, List.length_cons, List.getElem?_map, List.getElem?_toArray, List.getElem?_cons_zero, List.getElem?_cons_succ, List.getD_cons_zero, List.getD_cons_succ, List.map_cons, List.map_nil, List.toList_toArray, List.all_cons, List.all_nil, List.flatMap_cons, List.flatMap_nil, List.reverse_cons, List.reverse_nil, List.take_succ_cons, List.take_zero, List.drop_succ_cons, List.drop_zero, List.nil_append, List.cons_append, List.append_nil, Option.map_some, Option.map_none, Option.some_or, Option.none_or, Option.bind_some, Option.getD_some, Option.getD_none, Option.isNone_some, Option.isSome_some, Option.isSome_none, Option.isNone_none, if_true, if_false, beq_self_eq_true, List.length_set, List.isEmpty_cons, List.isEmpty_nil, List.mem_cons, List.not_mem_nil, Int.reduceNe, Int.reduceEq, ne_eq, not_false_eq_true, Int.reduceBEq, Int.reduceBNe, Int.reduceAdd, Int.reduceSub, Int.reduceMul, Int.reduceNeg, Int.reduceLE, Int.reduceLT, Nat.reduceEqDiff, Nat.reduceLT, Nat.reduceLeDiff, Nat.reduceAdd, Nat.reduceMul, Nat.reduceSub, reduceCtorEq, ↓reduceIte, Int.reduceToNat, tys1, tys2, tys3, tys4]
    refine ACall.frz [0] ?_
    simp only [am1, am2, am3, am4, am5, am6, am7, am8, am9, am10, am11, am12, am13, am14, am15, List.size_toArray, List.replicate_zero, List.length_map, List.length_append, List.length_nil, List.length_cons, List.getElem?_map, List.getElem?_toArray, List.getElem?_cons_zero, List.getElem?_cons_succ, List.getD_cons_zero, List.getD_cons_succ, List.map_cons, List.map_nil, List.toList_toArray, List.all_cons, List.all_nil, List.flatMap_cons, List.flatMap_nil, List.reverse_cons, List.reverse_nil, List.take_succ_cons, List.take_zero, List.drop_succ_cons, List.drop_zero, List.nil_append, List.cons_append, List.append_nil, Option.map_some, Option.map_none, Option.some_or, Option.none_or, Option.bind_some, Option.getD_some, Option.getD_none, Option.isNone_some, Option.isSome_some, Option.isSome_none, Option.isNone_none, if_true, if_false, beq_self_eq_true, List.length_set, List.isEmpty_cons, List.isEmpty_nil, List.mem_cons, List.not_mem_nil, Int.reduceNe, Int.reduceEq, ne_eq, not_false_eq_true, Int.reduceBEq, Int.reduceBNe, Int.reduceAdd, Int.reduceSub, Int.reduceMul, Int.reduceNeg, Int.reduceLE, Int.reduceLT, Nat.reduceEqDiff, Nat.reduceLT, Nat.reduceLeDiff, Nat.reduceAdd, Nat.reduceMul, Nat.reduceSub, reduceCtorEq, ↓reduceIte, Int.reduceToNat, tys1, tys2, tys3, tys4]
    refine ACall.of (hc) [] [] rfl (by simp) (by simp) (by simp) (by repeat' (first | exact trivial | exact .inl rfl | exact .inr rfl | exact .inr ⟨rfl, by simp⟩ | exact .inr ⟨rfl, rfl, by simp⟩ | apply And.intro)) (by repeat' (first | exact trivial | rfl | exact (tkC_ren _ _).symm | (simp; done) | apply And.intro)) (by first | exact .inl rfl | (refine .inr ⟨trivial, ?_⟩; first | (intro row h; rcases List.mem_singleton.1 h with rfl; exact nvB _) | (intro row h; cases h; done) | (simp; done)) | exact .inr ⟨by simp [nvP, nvP.nvPs, nvD], by simp [nvRow, nvD, nvP]⟩) ?_
    by_cases hw0 : w = 0#32
    · have hp := hz hw0
      have ht : takeSeal p = some (x, []) := by
        rw [hp]
        have := takeSeal_sealed x [] (by omega)
        rwa [List.append_nil] at this
      have hd : decide (w ≠ 0#32) = false := by rw [hw0]; rfl
      simp only [ht, hd, takeR, byts, errno, strOf_encB, bl_toList, beq_self_eq_true, bool, FinR, evRes, evRVs, evRV, am1, am2, am3, am4, am5, am6, am7, am8, am9, am10, am11, am12, am13, am14, am15, List.size_toArray, List.replicate_zero, List.length_map, List.length_append, List.length_nil, List.length_cons, List.getElem?_map, List.getElem?_toArray, List.getElem?_cons_zero, List.getElem?_cons_succ, List.getD_cons_zero, List.getD_cons_succ, List.map_cons, List.map_nil, List.toList_toArray, List.all_cons, List.all_nil, List.flatMap_cons, List.flatMap_nil, List.reverse_cons, List.reverse_nil, List.take_succ_cons, List.take_zero, List.drop_succ_cons, List.drop_zero, List.nil_append, List.cons_append, List.append_nil, Option.map_some, Option.map_none, Option.some_or, Option.none_or, Option.bind_some, Option.getD_some, Option.getD_none, Option.isNone_some, Option.isSome_some, Option.isSome_none, Option.isNone_none, if_true, if_false, beq_self_eq_true, List.length_set, List.isEmpty_cons, List.isEmpty_nil, List.mem_cons, List.not_mem_nil, Int.reduceNe, Int.reduceEq, ne_eq, not_false_eq_true, Int.reduceBEq, Int.reduceBNe, Int.reduceAdd, Int.reduceSub, Int.reduceMul, Int.reduceNeg, Int.reduceLE, Int.reduceLT, Nat.reduceEqDiff, Nat.reduceLT, Nat.reduceLeDiff, Nat.reduceAdd, Nat.reduceMul, Nat.reduceSub, reduceCtorEq, ↓reduceIte, Int.reduceToNat, tys1, tys2, tys3, tys4]
      exact ⟨_, [], [], rfl, Ent.plain rfl rfl rfl trivial rfl, rfl, rfl⟩
    · have hR : ¬ Phi p = Rsd := by
        rw [hPhi]
        intro h
        have h2 : T (8 * p.length - place) w = 0#32 := by
          have h3 : Rsd ^^^ (Rsd ^^^ T (8 * p.length - place) w) = Rsd ^^^ Rsd := by rw [h]
          rwa [← BitVec.xor_assoc, BitVec.xor_self, BitVec.zero_xor] at h3
        exact hw0 (T_inj _ _ h2)
      rw [if_neg hR] at hts
      have hd : decide (w ≠ 0#32) = true := decide_eq_true hw0
      simp only [hts, hd, takeR, nilS, errno, bool, FinR, evRes, evRVs, evRV, am1, am2, am3, am4, am5, am6, am7, am8, am9, am10, am11, am12, am13, am14, am15, List.size_toArray, List.replicate_zero, List.length_map, List.length_append, List.length_nil, List.length_cons, List.getElem?_map, List.getElem?_toArray, List.getElem?_cons_zero, List.getElem?_cons_succ, List.getD_cons_zero, List.getD_cons_succ, List.map_cons, List.map_nil, List.toList_toArray, List.all_cons, List.all_nil, List.flatMap_cons, List.flatMap_nil, List.reverse_cons, List.reverse_nil, List.take_succ_cons, List.take_zero, List.drop_succ_cons, List.drop_zero, List.nil_append, List.cons_append, List.append_nil, Option.map_some, Option.map_none, Option.some_or, Option.none_or, Option.bind_some, Option.getD_some, Option.getD_none, Option.isNone_some, Option.isSome_some, Option.isSome_none, Option.isNone_none, if_true, if_false, beq_self_eq_true, List.length_set, List.isEmpty_cons, List.isEmpty_nil, List.mem_cons, List.not_mem_nil, Int.reduceNe, Int.reduceEq, ne_eq, not_false_eq_true, Int.reduceBEq, Int.reduceBNe, Int.reduceAdd, Int.reduceSub, Int.reduceMul, Int.reduceNeg, Int.reduceLE, Int.reduceLT, Nat.reduceEqDiff, Nat.reduceLT, Nat.reduceLeDiff, Nat.reduceAdd, Nat.reduceMul, Nat.reduceSub, reduceCtorEq, ↓reduceIte, Int.reduceToNat, tys1, tys2, tys3, tys4]
      exact ⟨_, [], [], rfl, Ent.plain rfl rfl rfl trivial rfl, rfl, rfl⟩
end Go.Proofs.Ytjaklhbifgbiaaa
