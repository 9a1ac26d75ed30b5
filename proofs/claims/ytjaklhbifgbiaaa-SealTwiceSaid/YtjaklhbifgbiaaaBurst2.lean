/- Proved here: what functions of the program compute, and plain laws. No condition. -/
import Derived.Test.YtjaklhbifgbiaaaBurst
set_option linter.unusedSimpArgs false
set_option linter.unusedVariables false
namespace Go.Proofs.Ytjaklhbifgbiaaa
open Go Go.AM

theorem be32_word (a b c d : UInt8) : be32 (word a b c d) = [a, b, c, d] := by
  have key : ∀ (k : Nat) (z : UInt8), (∀ i, (hi : i < 8) → ((word a b c d) >>> k).getLsbD i = z.toBitVec[i]) → (⟨((word a b c d) >>> k).setWidth 8⟩ : UInt8) = z := by
    intro k z h
    have : ((word a b c d) >>> k).setWidth 8 = z.toBitVec := by
      apply BitVec.eq_of_getElem_eq
      intro i hi
      rw [BitVec.getElem_setWidth]
      exact h i hi
    rw [this]
  have k0 : (⟨(word a b c d).setWidth 8⟩ : UInt8) = d := by
    have := key 0 d ?_
    · simpa using this
    · intro i hi
      unfold word emb
      simp only [BitVec.getLsbD_xor, BitVec.getLsbD_shiftLeft, BitVec.getLsbD_setWidth, BitVec.getLsbD_ushiftRight]
      rcases (show i = 0 ∨ i = 1 ∨ i = 2 ∨ i = 3 ∨ i = 4 ∨ i = 5 ∨ i = 6 ∨ i = 7 by omega) with rfl | rfl | rfl | rfl | rfl | rfl | rfl | rfl <;> first | rfl | simp
  have k1 := key 8 c (by
    intro i hi
    unfold word emb
    simp only [BitVec.getLsbD_xor, BitVec.getLsbD_shiftLeft, BitVec.getLsbD_setWidth, BitVec.getLsbD_ushiftRight]
    rcases (show i = 0 ∨ i = 1 ∨ i = 2 ∨ i = 3 ∨ i = 4 ∨ i = 5 ∨ i = 6 ∨ i = 7 by omega) with rfl | rfl | rfl | rfl | rfl | rfl | rfl | rfl <;> first | rfl | simp)
  have k2 := key 16 b (by
    intro i hi
    unfold word emb
    simp only [BitVec.getLsbD_xor, BitVec.getLsbD_shiftLeft, BitVec.getLsbD_setWidth, BitVec.getLsbD_ushiftRight]
    rcases (show i = 0 ∨ i = 1 ∨ i = 2 ∨ i = 3 ∨ i = 4 ∨ i = 5 ∨ i = 6 ∨ i = 7 by omega) with rfl | rfl | rfl | rfl | rfl | rfl | rfl | rfl <;> first | rfl | simp)
  have k3 := key 24 a (by
    intro i hi
    unfold word emb
    simp only [BitVec.getLsbD_xor, BitVec.getLsbD_shiftLeft, BitVec.getLsbD_setWidth, BitVec.getLsbD_ushiftRight]
    rcases (show i = 0 ∨ i = 1 ∨ i = 2 ∨ i = 3 ∨ i = 4 ∨ i = 5 ∨ i = 6 ∨ i = 7 by omega) with rfl | rfl | rfl | rfl | rfl | rfl | rfl | rfl <;> first | rfl | simp)
  unfold be32
  rw [k0, k1, k2, k3]

def Rsd : BitVec 32 := T 32 (BitVec.allOnes 32)

theorem crc_iff (m : List UInt8) (a b c d : UInt8) : [a, b, c, d] = be32 (crc m) ↔ Phi (m ++ [a, b, c, d]) = Rsd := by
  have e : Phi (m ++ [a, b, c, d]) = T 32 (Phi m ^^^ word a b c d) := by
    unfold Phi; rw [List.foldl_append, fold4]
  have ec : crc m = BitVec.allOnes 32 ^^^ Phi m := by
    show ~~~ Phi m = _
    rw [BitVec.allOnes_xor]
  constructor
  · intro h
    have hw : word a b c d = crc m := by
      unfold be32 at h
      simp only [List.cons.injEq, and_true] at h
      obtain ⟨rfl, rfl, rfl, rfl⟩ := h
      exact word_be32 _
    rw [e, hw, ec, BitVec.xor_comm, BitVec.xor_assoc, BitVec.xor_self, BitVec.xor_zero]; rfl
  · intro h
    rw [e] at h
    have h2 : T 32 ((Phi m ^^^ word a b c d) ^^^ BitVec.allOnes 32) = 0#32 := by
      rw [T_xor, h]; show Rsd ^^^ Rsd = _; exact BitVec.xor_self
    have h3 := T_inj _ _ h2
    have h4 : word a b c d = crc m := by
      rw [ec]
      have : (Phi m ^^^ word a b c d) ^^^ BitVec.allOnes 32 ^^^ (BitVec.allOnes 32 ^^^ Phi m) = 0#32 ^^^ (BitVec.allOnes 32 ^^^ Phi m) := by rw [h3]
      rw [BitVec.zero_xor] at this
      rw [← this]
      have : ∀ (p q r : BitVec 32), p ^^^ q ^^^ r ^^^ (r ^^^ p) = q := fun p q r => by
        rw [show p ^^^ q ^^^ r ^^^ (r ^^^ p) = q ^^^ (r ^^^ r) ^^^ (p ^^^ p) from by ac_rfl, BitVec.xor_self, BitVec.xor_self, BitVec.xor_zero, BitVec.xor_zero]
      rw [this]
    rw [← h4, be32_word]

theorem four (l : List UInt8) (h : l.length = 4) : ∃ a b c d, l = [a, b, c, d] := by
  match l, h with
  | [a, b, c, d], _ => exact ⟨a, b, c, d, rfl⟩

theorem takeSeal_short (n : Nat) (body : List UInt8) (hn : n < 128) (hb : body.length = n + 4) : takeSeal (UInt8.ofNat n :: body) = if Phi (UInt8.ofNat n :: body) = Rsd then some (body.take n, []) else none := by
  have hl : leb n = [UInt8.ofNat n] := by rw [leb, if_pos hn]
  have ht := takeNum_leb n body (by omega)
  rw [hl, List.singleton_append] at ht
  obtain ⟨a, b, c, d, hf⟩ := four (body.drop n) (by simp; omega)
  have e : UInt8.ofNat n :: body = (leb n ++ body.take n) ++ [a, b, c, d] := by
    rw [hl, ← hf, List.append_assoc, List.take_append_drop]; rfl
  have h4 : (body.drop n).take 4 = [a, b, c, d] := by rw [hf]; rfl
  have hd : body.drop (n + 4) = [] := List.drop_of_length_le (by omega)
  unfold takeSeal
  rw [ht]
  simp only [h4, hd]
  have hle : n + 4 ≤ body.length := by omega
  have hi := crc_iff (leb n ++ body.take n) a b c d
  rw [← e] at hi
  by_cases hc : Phi (UInt8.ofNat n :: body) = Rsd
  · rw [if_pos hc, if_pos ⟨hle, hi.2 hc⟩]
  · rw [if_neg hc, if_neg fun h => hc (hi.1 h.2)]

theorem sealed_short (x : List UInt8) (hx : x.length < 128) : sealed x = UInt8.ofNat x.length :: (x ++ be32 (crc (leb x.length ++ x))) ∧ Phi (sealed x) = Rsd := by
  have hl : leb x.length = [UInt8.ofNat x.length] := by rw [leb, if_pos hx]
  constructor
  · unfold sealed
    conv => lhs; rw [hl]
    rw [hl]; rfl
  · have := (crc_iff (leb x.length ++ x) _ _ _ _).1 (rfl : [_, _, _, _] = be32 (crc (leb x.length ++ x)))
    exact this

theorem top_bit : ∀ k, k < 32 → (0x80000000#32).getLsbD k = decide (k = 31) := by decide

/-- one step of the burst -/
theorem burst_step (p : List UInt8) (w : BitVec 32) (place i : Nat) (hi : i < 32) (hk : place + i < 8 * p.length) (hPhi : Phi p = Rsd ^^^ T (8 * p.length - place) w) (hw : ∀ j, j < 32 - i → w.getLsbD j = false)
    (hq : (place + i) / 8 < p.length) :
    Phi (p.set ((place + i) / 8) (p[(place + i) / 8] ^^^ UInt8.ofNat (128 >>> ((place + i) % 8)))) = Rsd ^^^ T (8 * p.length - place) (w ^^^ 0x80000000#32 >>> i) ∧
    (∀ j, j < 32 - (i + 1) → (w ^^^ 0x80000000#32 >>> i).getLsbD j = false) ∧ (w ^^^ 0x80000000#32 >>> i) ≠ 0#32 := by
  refine ⟨?_, fun j hj => ?_, fun h => ?_⟩
  · rw [Phi_flip p _ _ hq (Nat.mod_lt _ (by omega)), hPhi, show 8 * ((place + i) / 8) + (place + i) % 8 = place + i from by omega, T_xor]
    have e : T (8 * p.length - place) (0x80000000#32 >>> i) = T (8 * p.length - (place + i)) 0x80000000#32 := by
      rw [show 8 * p.length - place = (8 * p.length - (place + i)) + i from by omega, T_add, T_bit i hi]
    rw [e, BitVec.xor_assoc]
  · rw [BitVec.getLsbD_xor, hw j (by omega), BitVec.getLsbD_ushiftRight, top_bit _ (by omega)]
    simp; omega
  · have := congrArg (fun z => BitVec.getLsbD z (31 - i)) h
    simp only [BitVec.getLsbD_xor, hw (31 - i) (by omega), BitVec.getLsbD_ushiftRight] at this
    rw [show i + (31 - i) = 31 from by omega, top_bit 31 (by omega)] at this
    simp at this
end Go.Proofs.Ytjaklhbifgbiaaa
