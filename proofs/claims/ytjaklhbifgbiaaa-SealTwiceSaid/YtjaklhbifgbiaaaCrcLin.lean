/- Proved here: what functions of the program compute, and plain laws. No condition. -/
import Derived.Test.YtjaklhbifgbiaaaSPut
set_option linter.unusedSimpArgs false
set_option linter.unusedVariables false
namespace Go.Proofs.Ytjaklhbifgbiaaa
open Go Go.AM

/-! ## the sum is linear -/
theorem crcBit_msb (s : BitVec 32) : crcBit s = (s <<< 1) ^^^ (if s.msb then 79764919#32 else 0#32) := by
  unfold crcBit
  congr 1
  have h : s >>> 31 = if s.msb then 1#32 else 0#32 := by
    apply BitVec.eq_of_toNat_eq
    rw [BitVec.toNat_ushiftRight, Nat.shiftRight_eq_div_pow, BitVec.msb_eq_decide]
    have := s.isLt
    by_cases hb : 2 ^ (32 - 1) ≤ s.toNat
    · simp only [hb, decide_true, if_true]
      show s.toNat / 2147483648 = 1
      omega
    · simp only [hb, decide_false]
      show s.toNat / 2147483648 = 0
      omega
  rw [h]
  split <;> rfl

theorem crcBit_xor (a b : BitVec 32) : crcBit (a ^^^ b) = crcBit a ^^^ crcBit b := by
  rw [crcBit_msb, crcBit_msb, crcBit_msb, BitVec.msb_xor, BitVec.shiftLeft_xor_distrib]
  generalize a <<< 1 = A
  generalize b <<< 1 = B
  cases a.msb <;> cases b.msb <;> simp only [Bool.xor_false, Bool.false_xor, Bool.xor_true, Bool.not_true, Bool.true_xor, if_true, Bool.false_eq_true, if_false, BitVec.xor_zero]
  · ac_rfl
  · ac_rfl
  · rw [show A ^^^ 79764919#32 ^^^ (B ^^^ 79764919#32) = (A ^^^ B) ^^^ (79764919#32 ^^^ 79764919#32) from by ac_rfl, BitVec.xor_self, BitVec.xor_zero]

theorem rep_xor (n : Nat) (a b : BitVec 32) : Nat.repeat crcBit n (a ^^^ b) = Nat.repeat crcBit n a ^^^ Nat.repeat crcBit n b := by
  induction n with
  | zero => rfl
  | succ n ih => simp only [Nat.repeat]; rw [ih, crcBit_xor]

def emb (b : UInt8) : BitVec 32 := b.toBitVec.setWidth 32 <<< 24
theorem emb_xor (a b : UInt8) : emb (a ^^^ b) = emb a ^^^ emb b := by
  unfold emb
  rw [UInt8.toBitVec_xor, BitVec.setWidth_xor, BitVec.shiftLeft_xor_distrib]

theorem xor6 (a b c d e f : BitVec 32) : (a ^^^ d) ^^^ (b ^^^ e) ^^^ (c ^^^ f) = (a ^^^ b ^^^ c) ^^^ (d ^^^ e ^^^ f) := by
  ac_rfl

theorem crcByte_xor (s t u : BitVec 32) (a b c : UInt8) : crcByte s a ^^^ crcByte t b ^^^ crcByte u c = crcByte (s ^^^ t ^^^ u) (a ^^^ b ^^^ c) := by
  show Nat.repeat crcBit 8 (s ^^^ emb a) ^^^ Nat.repeat crcBit 8 (t ^^^ emb b) ^^^ Nat.repeat crcBit 8 (u ^^^ emb c) = Nat.repeat crcBit 8 ((s ^^^ t ^^^ u) ^^^ emb (a ^^^ b ^^^ c))
  rw [← rep_xor, ← rep_xor, xor6, emb_xor, emb_xor]

theorem fold_xor (l : List (UInt8 × UInt8 × UInt8)) : ∀ (s t u : BitVec 32), (l.map (·.1)).foldl crcByte s ^^^ (l.map (·.2.1)).foldl crcByte t ^^^ (l.map (·.2.2)).foldl crcByte u =
    (l.map fun x => x.1 ^^^ x.2.1 ^^^ x.2.2).foldl crcByte (s ^^^ t ^^^ u) := by
  induction l with
  | nil => intro s t u; rfl
  | cons x l ih => intro s t u; simp only [List.map_cons, List.foldl_cons]; rw [ih, crcByte_xor]

theorem not_xor3 (a b c : BitVec 32) : ~~~a ^^^ ~~~b ^^^ ~~~c = ~~~(a ^^^ b ^^^ c) := by
  rw [← BitVec.allOnes_xor, ← BitVec.allOnes_xor, ← BitVec.allOnes_xor, ← BitVec.allOnes_xor, xor6]
  simp

theorem crc_xor (l : List (UInt8 × UInt8 × UInt8)) : crc (l.map (·.1)) ^^^ crc (l.map (·.2.1)) ^^^ crc (l.map (·.2.2)) = crc (l.map fun x => x.1 ^^^ x.2.1 ^^^ x.2.2) := by
  unfold crc
  rw [not_xor3]
  unfold crcF
  rw [fold_xor]
  simp
end Go.Proofs.Ytjaklhbifgbiaaa
