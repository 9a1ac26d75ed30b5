/- Proved here: what functions of the program compute, and plain laws. No condition. -/
import Derived.Test.YtjaklhbifgbiaaaLaws3
set_option linter.unusedSimpArgs false
set_option linter.unusedVariables false
namespace Go.Proofs.Ytjaklhbifgbiaaa
open Go Go.AM

/-! ## bursts -/
def T (k : Nat) (s : BitVec 32) : BitVec 32 := Nat.repeat crcBit k s
theorem T_xor (k : Nat) (a b : BitVec 32) : T k (a ^^^ b) = T k a ^^^ T k b := rep_xor k a b

theorem T_add (m : Nat) (s : BitVec 32) : ∀ n, T (n + m) s = T n (T m s)
  | 0 => by simp [T, Nat.repeat]
  | n + 1 => by
    rw [show n + 1 + m = (n + m) + 1 from by omega]
    show crcBit (T (n + m) s) = crcBit (T n (T m s))
    rw [T_add m s n]
theorem crcBit_zero : crcBit 0#32 = 0#32 := by decide
theorem T_zero : ∀ k, T k 0#32 = 0#32
  | 0 => rfl
  | k + 1 => by show crcBit (T k 0#32) = _; rw [T_zero k, crcBit_zero]
theorem crcBit_inj (s : BitVec 32) (h : crcBit s = 0#32) : s = 0#32 := by
  rw [crcBit_msb] at h
  rcases hm : s.msb with _ | _
  · rw [hm] at h
    simp only [Bool.false_eq_true, if_false, BitVec.xor_zero] at h
    have h1 := congrArg BitVec.toNat h
    rw [BitVec.msb_eq_decide, decide_eq_false_iff_not] at hm
    have hs := s.isLt
    rw [BitVec.toNat_shiftLeft, Nat.shiftLeft_eq] at h1
    apply BitVec.eq_of_toNat_eq
    have e0 : (0#32).toNat = 0 := rfl
    rw [e0] at h1 ⊢
    omega
  · rw [hm] at h
    simp only [if_true] at h
    have h1 : s <<< 1 = 79764919#32 := by
      have := congrArg (· ^^^ 79764919#32) h
      simp only [BitVec.xor_assoc, BitVec.xor_self, BitVec.xor_zero, BitVec.zero_xor] at this
      exact this
    have h2 := congrArg BitVec.toNat h1
    rw [BitVec.toNat_shiftLeft, Nat.shiftLeft_eq] at h2
    have e0 : (79764919#32).toNat = 79764919 := rfl
    rw [e0] at h2
    omega
theorem T_inj (s : BitVec 32) : ∀ k, T k s = 0#32 → s = 0#32
  | 0, h => h
  | k + 1, h => T_inj s k (crcBit_inj _ h)

theorem crcBit_shr (x : BitVec 32) (k : Nat) (hk : k ≤ 31) (h : (x >>> k) <<< k = x) : T k (x >>> k) = x := by
  have key : ∀ j, j ≤ k → T j (x >>> k) = (x >>> k) <<< j := by
    intro j
    induction j with
    | zero => intro _; simp [T, Nat.repeat]
    | succ j ih =>
      intro hj
      show crcBit (T j (x >>> k)) = _
      rw [ih (by omega), crcBit_msb]
      have hm : ((x >>> k) <<< j).msb = false := by
        rw [BitVec.msb_eq_decide, decide_eq_false_iff_not, BitVec.toNat_shiftLeft, Nat.shiftLeft_eq, BitVec.toNat_ushiftRight, Nat.shiftRight_eq_div_pow]
        have hx := x.isLt
        have h1 : x.toNat / 2 ^ k < 2 ^ (32 - k) := by
          rw [Nat.div_lt_iff_lt_mul (Nat.pow_pos (by omega)), ← Nat.pow_add, show 32 - k + k = 32 from by omega]; exact hx
        have h2 : x.toNat / 2 ^ k * 2 ^ j < 2 ^ (32 - k) * 2 ^ j := Nat.mul_lt_mul_of_pos_right h1 (Nat.pow_pos (by omega))
        rw [← Nat.pow_add] at h2
        have h3 : 2 ^ (32 - k + j) ≤ 2 ^ 31 := Nat.pow_le_pow_right (by omega) (by omega)
        have h4 : x.toNat / 2 ^ k * 2 ^ j < 2 ^ 32 := Nat.lt_of_lt_of_le h2 (Nat.le_trans h3 (Nat.pow_le_pow_right (by omega) (by omega)))
        rw [Nat.mod_eq_of_lt h4]
        have : (32 - 1 : Nat) = 31 := rfl
        rw [this]; omega
      rw [hm]
      simp only [Bool.false_eq_true, if_false, BitVec.xor_zero]
      rw [← BitVec.shiftLeft_add]
  rw [key k (Nat.le_refl k), h]

theorem fold_lin (l : List UInt8) : ∀ (s t : BitVec 32), l.foldl crcByte (s ^^^ t) = l.foldl crcByte s ^^^ T (8 * l.length) t := by
  induction l with
  | nil => intro s t; rfl
  | cons b l ih =>
    intro s t
    simp only [List.foldl_cons, List.length_cons]
    have e : crcByte (s ^^^ t) b = crcByte s b ^^^ T 8 t := by
      show T 8 (s ^^^ t ^^^ emb b) = T 8 (s ^^^ emb b) ^^^ T 8 t
      rw [← T_xor, BitVec.xor_assoc, BitVec.xor_assoc, BitVec.xor_comm t]
    rw [e, ih, ← T_add, show 8 * l.length + 8 = 8 * (l.length + 1) from by omega]

/-- one bit, of the byte that it is in -/
theorem emb_bit (r : Nat) (hr : r < 8) : emb (UInt8.ofNat (128 >>> r)) = 0x80000000#32 >>> r ∧ (0x80000000#32 >>> r) <<< r = 0x80000000#32 := by
  have key : ∀ r, r < 8 → emb (UInt8.ofNat (128 >>> r)) = 0x80000000#32 >>> r ∧ (0x80000000#32 >>> r) <<< r = 0x80000000#32 := by decide
  exact key r hr

theorem T_bit (i : Nat) (hi : i < 32) : T i (0x80000000#32 >>> i) = 0x80000000#32 := by
  have key : ∀ i, i < 32 → (0x80000000#32 >>> i) <<< i = 0x80000000#32 := by decide
  exact crcBit_shr _ _ (by omega) (key i hi)

def Phi (p : List UInt8) : BitVec 32 := p.foldl crcByte (BitVec.allOnes 32)

theorem Phi_flip (p : List UInt8) (q r : Nat) (hq : q < p.length) (hr : r < 8) :
    Phi (p.set q (p[q] ^^^ UInt8.ofNat (128 >>> r))) = Phi p ^^^ T (8 * p.length - (8 * q + r)) 0x80000000#32 := by
  have e1 : p = p.take q ++ p[q] :: p.drop (q + 1) := by
    conv => lhs; rw [← List.take_append_drop q p]
    rw [List.drop_eq_getElem_cons hq]
  have hl : (p.take q).length = q := by rw [List.length_take]; omega
  have e2 : p.set q (p[q] ^^^ UInt8.ofNat (128 >>> r)) = p.take q ++ (p[q] ^^^ UInt8.ofNat (128 >>> r)) :: p.drop (q + 1) := by
    rw [List.set_eq_take_append_cons_drop, if_pos hq]
  unfold Phi
  rw [e2]
  conv => rhs; rw [e1]
  rw [List.foldl_append, List.foldl_append, List.foldl_cons, List.foldl_cons]
  generalize (p.take q).foldl crcByte (BitVec.allOnes 32) = S
  have e3 : crcByte S (p[q] ^^^ UInt8.ofNat (128 >>> r)) = crcByte S p[q] ^^^ T 8 (0x80000000#32 >>> r) := by
    show T 8 (S ^^^ emb (p[q] ^^^ _)) = T 8 (S ^^^ emb p[q]) ^^^ _
    rw [emb_xor, ← BitVec.xor_assoc, (emb_bit r hr).1, T_xor]
  have e4 : T 8 (0x80000000#32 >>> r) = T (8 - r) 0x80000000#32 := by
    rw [show (8 : Nat) = (8 - r) + r from by omega, T_add, crcBit_shr _ r (by omega) (emb_bit r hr).2, show 8 - r + r - r = 8 - r from by omega]
  rw [e3, fold_lin, e4, ← T_add]
  have hd : (p.drop (q + 1)).length = p.length - (q + 1) := by simp
  congr 2
  simp only [List.length_append, List.length_cons, hl, hd]
  omega

/-- four bytes as a number -/
def word (a b c d : UInt8) : BitVec 32 := emb a ^^^ (emb b >>> 8) ^^^ (emb c >>> 16) ^^^ (emb d >>> 24)
theorem fold4 (s : BitVec 32) (a b c d : UInt8) : [a, b, c, d].foldl crcByte s = T 32 (s ^^^ word a b c d) := by
  have sh : ∀ (x : UInt8) (k : Nat), k ≤ 24 → T k (emb x >>> k) = emb x := fun x k hk => by
    apply crcBit_shr _ _ (by omega)
    unfold emb
    apply BitVec.eq_of_toNat_eq
    have hx := x.toBitVec.isLt
    rw [BitVec.toNat_shiftLeft, BitVec.toNat_ushiftRight, BitVec.toNat_shiftLeft, BitVec.toNat_setWidth, Nat.shiftLeft_eq, Nat.shiftLeft_eq, Nat.shiftRight_eq_div_pow]
    have e0 : x.toBitVec.toNat % 2 ^ 32 = x.toBitVec.toNat := Nat.mod_eq_of_lt (by omega)
    rw [e0]
    have e1 : x.toBitVec.toNat * 2 ^ 24 < 2 ^ 32 := by omega
    rw [Nat.mod_eq_of_lt e1]
    have e2 : x.toBitVec.toNat * 2 ^ 24 = x.toBitVec.toNat * 2 ^ (24 - k) * 2 ^ k := by rw [Nat.mul_assoc, ← Nat.pow_add, show 24 - k + k = 24 from by omega]
    rw [e2, Nat.mul_div_cancel _ (Nat.pow_pos (by omega)), ← e2, Nat.mod_eq_of_lt e1]
  have step : ∀ (s : BitVec 32) (x : UInt8), crcByte s x = T 8 s ^^^ T 8 (emb x) := fun s x => T_xor 8 s (emb x)
  have a2 : ∀ x, T 8 (T 8 x) = T 16 x := fun x => (T_add 8 x 8).symm
  have a3 : ∀ x, T 8 (T 16 x) = T 24 x := fun x => (T_add 16 x 8).symm
  have a4 : ∀ x, T 8 (T 24 x) = T 32 x := fun x => (T_add 24 x 8).symm
  have y1 : T 32 (emb b >>> 8) = T 24 (emb b) := (T_add 8 (emb b >>> 8) 24).trans (by rw [sh b 8 (by omega)])
  have y2 : T 32 (emb c >>> 16) = T 16 (emb c) := (T_add 16 (emb c >>> 16) 16).trans (by rw [sh c 16 (by omega)])
  have y3 : T 32 (emb d >>> 24) = T 8 (emb d) := (T_add 24 (emb d >>> 24) 8).trans (by rw [sh d 24 (by omega)])
  simp only [List.foldl_cons, List.foldl_nil, step, word, T_xor, a2, a3, a4, y1, y2, y3, BitVec.xor_assoc]

theorem word_be32 (x : BitVec 32) : word ⟨(x >>> 24).setWidth 8⟩ ⟨(x >>> 16).setWidth 8⟩ ⟨(x >>> 8).setWidth 8⟩ ⟨x.setWidth 8⟩ = x := by
  unfold word emb
  apply BitVec.eq_of_getElem_eq
  intro i hi
  simp only [BitVec.getElem_xor, BitVec.getElem_shiftLeft, BitVec.getElem_ushiftRight, BitVec.getLsbD_shiftLeft, BitVec.getElem_setWidth, BitVec.getLsbD_setWidth, BitVec.getLsbD_ushiftRight]
  rcases (show i = 0 ∨ i = 1 ∨ i = 2 ∨ i = 3 ∨ i = 4 ∨ i = 5 ∨ i = 6 ∨ i = 7 ∨ i = 8 ∨ i = 9 ∨ i = 10 ∨ i = 11 ∨ i = 12 ∨ i = 13 ∨ i = 14 ∨ i = 15 ∨ i = 16 ∨ i = 17 ∨ i = 18 ∨ i = 19 ∨ i = 20 ∨ i = 21 ∨ i = 22 ∨ i = 23 ∨ i = 24 ∨ i = 25 ∨ i = 26 ∨ i = 27 ∨ i = 28 ∨ i = 29 ∨ i = 30 ∨ i = 31 by omega) with rfl | rfl | rfl | rfl | rfl | rfl | rfl | rfl | rfl | rfl | rfl | rfl | rfl | rfl | rfl | rfl | rfl | rfl | rfl | rfl | rfl | rfl | rfl | rfl | rfl | rfl | rfl | rfl | rfl | rfl | rfl | rfl <;> first | rfl | simp
end Go.Proofs.Ytjaklhbifgbiaaa
