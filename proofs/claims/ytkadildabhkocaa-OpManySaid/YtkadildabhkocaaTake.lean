/- Proved here: what functions of the program compute, and plain laws. No condition. -/
import Derived.Test.YtkadildabhkocaaLen
set_option linter.unusedSimpArgs false
set_option linter.unusedVariables false
namespace Go.Proofs.Ytkadildabhkocaa
open Go Go.AM

/-! ## a taker: what is left, or bad -/
abbrev Tk := Option (List UInt8)
def tkC : Tk → List PV
  | some bs => [byts bs, bool false]
  | none => [.d (.lit (.slice none 0 0)), bool true]
theorem tkC_ren : (∀ σ t, renRow σ (.box (tkC t)) = .box (tkC t)) ∧ (∀ σ t, rens σ (tkC t) = tkC t) := by
  constructor <;> intro σ t <;> cases t <;> rfl
theorem tkC_row (rows : AM.Rows) (F : List Nat) (σ : Nat → Nat) (t : Tk) : frzRow rows F (.box (tkC t)) = renRow σ (.box (tkC t)) := by
  cases t <;> rfl
theorem tkC_s : (∀ bs, tkC (some bs) = [byts bs, bool false]) ∧ tkC none = [nilS, bool true] := ⟨fun _ => rfl, rfl⟩
theorem tkC_scs (n : Nat) (t : Tk) : scBs n (tkC t) = true := by
  cases t <;> rfl
def numT : Tk → Nat × Tk
  | none => (0, none)
  | some bs => match takeNum bs with | none => (0, none) | some (n, r) => (n, some r)
def textT (t : Tk) : List UInt8 × Tk := match (numT t).2 with
  | none => ([], none)
  | some r => if r.length < (numT t).1 then ([], none) else (r.take (numT t).1, some (r.drop (numT t).1))
def leftT : Tk → Nat | some bs => bs.length | none => 0
def endT : Tk → Int | some [] => 0 | _ => 6

theorem octsNew (b : List UInt8) (hl : b.length ≤ 100000000000000) : AFun Try.prog 53 [byts b] [] (.ptr 0 0) [.box (tkC (some b))] := by
  refine AFun.of_walk hP Try.func53 rfl rfl rfl (by simp) rfl ?_
  simp only [Try.f53, byts, FinR, evRes, evRVs, evRV, am, simprocAttr, tys]
  refine ⟨by omega, ?_⟩
  exact ⟨_, [1], [2], rfl, ⟨rfl, rfl, by simp, (fun i hi => absurd hi (Nat.not_lt_zero _)), trivial, ⟨.inr ⟨by decide, rfl⟩, trivial⟩, rfl, by decide, rfl, (by first | rfl | simp [scRow, tkC_scs])⟩, rfl, rfl⟩

theorem tkFail (t : Tk) : AFun Try.prog 66 [.ptr 0 0] [.box (tkC t)] (.tup []) [.box (tkC none)] := by
  refine AFun.of_walk hP Try.func66 rfl rfl rfl (by simp) rfl ?_
  rcases t with _ | bs
  · simp only [Try.f66, tkC, byts, bool, FinR, evRes, evRVs, evRV, am, simprocAttr, tys]
    exact ⟨_, [], [0], rfl, ⟨rfl, rfl, by simp, (fun i hi => .inr ((by decide : ∀ i, i < 1 → ([0] : List Nat).getD i 0 = i) i hi)), trivial, ⟨.inr ⟨by decide, rfl⟩, trivial⟩, rfl, by decide, rfl, (by first | rfl | simp [scRow, tkC_scs])⟩, rfl, rfl⟩
  · simp only [Try.f66, tkC, byts, bool, FinR, evRes, evRVs, evRV, am, simprocAttr, tys]
    exact ⟨_, [], [0], rfl, ⟨rfl, rfl, by simp, (fun i hi => .inr ((by decide : ∀ i, i < 1 → ([0] : List Nat).getD i 0 = i) i hi)), trivial, ⟨.inr ⟨by decide, rfl⟩, trivial⟩, rfl, by decide, rfl, (by first | rfl | simp [scRow, tkC_scs])⟩, rfl, rfl⟩

theorem tkLeft (t : Tk) : AFun Try.prog 56 [.ptr 0 0] [.box (tkC t)] (int (leftT t)) [.box (tkC t)] := by
  refine AFun.of_walk hP Try.func56 rfl rfl rfl (by simp) rfl ?_
  rcases t with _ | bs
  · simp only [Try.f56, tkC, byts, bool, FinR, evRes, evRVs, evRV, am, simprocAttr, tys]
    exact ⟨_, [], [0], rfl, ⟨rfl, rfl, by simp, (fun i hi => .inr ((by decide : ∀ i, i < 1 → ([0] : List Nat).getD i 0 = i) i hi)), trivial, ⟨.inr ⟨by decide, rfl⟩, trivial⟩, rfl, by decide, rfl, (by first | rfl | simp [scRow, tkC_scs])⟩, rfl, rfl⟩
  · simp only [Try.f56, tkC, byts, bool, FinR, evRes, evRVs, evRV, am, simprocAttr, tys]
    exact ⟨_, [], [0], rfl, ⟨rfl, rfl, by simp, (fun i hi => .inr ((by decide : ∀ i, i < 1 → ([0] : List Nat).getD i 0 = i) i hi)), trivial, ⟨.inr ⟨by decide, rfl⟩, trivial⟩, rfl, by decide, rfl, (by first | rfl | simp [scRow, tkC_scs])⟩, rfl, rfl⟩

/-! ### a number is taken -/
theorem acc_or (p : List UInt8) (c : UInt8) (h : p.length ≤ 8 ∨ p.length = 9 ∧ c.toNat ≤ 1) :
    evBits .or .u64 ((val p : Nat) : Int) (IntKind.u64.wrap (IntKind.u64.wrap (evBits .andNot .u8 (c.toNat : Int) 128) * 2 ^ min (7 * (p.length : Int)).toNat IntKind.u64.bits)) = ((val (p ++ [c]) : Nat) : Int) := by
  have key : ∀ m, m < 256 → (BitVec.ofNat 8 m &&& ~~~ 128#8).toNat = m % 128 := by decide +kernel
  have e1 : evBits .andNot .u8 (c.toNat : Int) 128 = ((c.toNat % 128 : Nat) : Int) := by
    show IntKind.u8.wrap ((BitVec.ofInt 8 (c.toNat : Int) &&& ~~~ BitVec.ofInt 8 128).toNat : Int) = _
    have e2 : BitVec.ofInt 8 (c.toNat : Int) = BitVec.ofNat 8 c.toNat := by simp
    have e3 : BitVec.ofInt 8 128 = 128#8 := rfl
    have := c.toNat_lt
    rw [e2, e3, key _ this, IntKind.wrap_u8]; omega
  have hm : c.toNat % 128 < 128 := Nat.mod_lt _ (by omega)
  have e4 : (7 * (p.length : Int)).toNat = 7 * p.length := by omega
  have e5 : min (7 * p.length) IntKind.u64.bits = 7 * p.length := by
    show min (7 * p.length) 64 = _
    omega
  have e6 : (128 : Nat) ^ p.length = 2 ^ (7 * p.length) := by rw [Nat.pow_mul]
  have hv := val_lt p
  have hb : c.toNat % 128 * 2 ^ (7 * p.length) + 2 ^ (7 * p.length) ≤ 18446744073709551616 := by
    rcases h with h | ⟨h, hc⟩
    · have h1 : c.toNat % 128 * 2 ^ (7 * p.length) + 2 ^ (7 * p.length) = (c.toNat % 128 + 1) * 2 ^ (7 * p.length) := by rw [Nat.add_mul, Nat.one_mul]
      have h2 : (c.toNat % 128 + 1) * 2 ^ (7 * p.length) ≤ 128 * 2 ^ (7 * p.length) := Nat.mul_le_mul_right _ (by omega)
      have h3 : 128 * 2 ^ (7 * p.length) = 2 ^ (7 * p.length + 7) := by rw [Nat.pow_add]; omega
      have h4 : 2 ^ (7 * p.length + 7) ≤ 9223372036854775808 := Nat.pow_le_pow_right (n := 2) (by omega) (show 7 * p.length + 7 ≤ 63 by omega)
      omega
    · have h3 : (2 : Nat) ^ (7 * p.length) = 9223372036854775808 := by rw [h]
      have : c.toNat % 128 ≤ 1 := by omega
      have h2 : c.toNat % 128 * 2 ^ (7 * p.length) ≤ 1 * 2 ^ (7 * p.length) := Nat.mul_le_mul_right _ this
      omega
  have hpos : 0 < 2 ^ (7 * p.length) := Nat.pow_pos (by omega)
  rw [e1, e4, e5, IntWalk.u64_in ((c.toNat % 128 : Nat) : Int) (by omega)]
  have e10 := val_snoc p c
  rw [e6, Nat.mul_comm] at e10
  rw [e6] at hv
  have e11 := Nat.shiftLeft_add_eq_or_of_lt hv (c.toNat % 128)
  rw [Nat.shiftLeft_eq] at e11
  have e7 : (((c.toNat % 128 : Nat) : Int) * 2 ^ (7 * p.length)) = ((c.toNat % 128 * 2 ^ (7 * p.length) : Nat) : Int) := by simp
  rw [e7]
  generalize c.toNat % 128 * 2 ^ (7 * p.length) = q at *
  generalize 2 ^ (7 * p.length) = z at *
  have e8 : ((val p : Nat) : Int) = (((BitVec.ofNat 64 (val p)).toNat : Nat) : Int) := by
    rw [BitVec.toNat_ofNat, Nat.mod_eq_of_lt (by omega)]
  have e9 : ((q : Nat) : Int) = (((BitVec.ofNat 64 q).toNat : Nat) : Int) := by
    rw [BitVec.toNat_ofNat, Nat.mod_eq_of_lt (by omega)]
  rw [IntWalk.u64_in (q : Int) (by omega), e8, e9, o64, BitVec.toNat_or, BitVec.toNat_ofNat, BitVec.toNat_ofNat, Nat.mod_eq_of_lt (show val p < 2 ^ 64 by omega), Nat.mod_eq_of_lt (show q < 2 ^ 64 by omega), e10, Nat.or_comm, ← e11, Nat.add_comm]

theorem and128 (c : UInt8) : (evBits .and .u8 (c.toNat : Int) 128 != 0) = isC c := by
  have key : ∀ m, m < 256 → ((((BitVec.ofNat 8 m &&& 128#8).toNat : Nat) : Int) != 0) = decide (128 ≤ m) := by decide +kernel
  have e : evBits .and .u8 (c.toNat : Int) 128 = (((c.toBitVec &&& 128#8).toNat : Nat) : Int) := n8 c.toBitVec 128#8
  have e2 : c.toBitVec = BitVec.ofNat 8 c.toNat := by apply BitVec.eq_of_toNat_eq; rw [BitVec.toNat_ofNat, Nat.mod_eq_of_lt c.toNat_lt]; rfl
  rw [e, e2, key _ c.toNat_lt]; rfl

theorem val_snoc_bl (p : List UInt8) (c : UInt8) (hc : c.toNat < 128) (hl : p.length ≤ 9) : max 1 ((bl (val (p ++ [c])) + 6) / 7) = p.length + 1 ↔ (p = [] ∨ c.toNat ≠ 0) := by
  have hv := val_lt p
  have e6 : (128 : Nat) ^ p.length = 2 ^ (7 * p.length) := by rw [Nat.pow_mul]
  rw [e6] at hv
  have es := val_snoc p c
  rw [Nat.mod_eq_of_lt hc, e6] at es
  by_cases h0 : c.toNat = 0
  · rw [h0, Nat.mul_zero, Nat.add_zero] at es
    by_cases hp : p = []
    · subst hp
      simp only [val] at es
      rw [es]
      simp [bl]
    · have hpos : 0 < p.length := by cases p <;> simp at hp ⊢
      have hb := (bl_le (val (p ++ [c])) (7 * p.length)).2 (by omega)
      constructor
      · intro h; omega
      · intro h; rcases h with h | h
        · exact absurd h hp
        · exact absurd h0 h
  · have hpos : 0 < 2 ^ (7 * p.length) := Nat.pow_pos (by omega)
    have h1 : 2 ^ (7 * p.length) ≤ val (p ++ [c]) := by
      have : 2 ^ (7 * p.length) * 1 ≤ 2 ^ (7 * p.length) * c.toNat := Nat.mul_le_mul_left _ (by omega)
      omega
    have h2 : val (p ++ [c]) < 2 ^ (7 * p.length + 7) := by
      rw [Nat.pow_add]
      have : 2 ^ (7 * p.length) * c.toNat ≤ 2 ^ (7 * p.length) * 127 := Nat.mul_le_mul_left _ (by omega)
      omega
    have hb1 := (bl_le (val (p ++ [c])) (7 * p.length + 7)).2 h2
    have hb2 : ¬ bl (val (p ++ [c])) ≤ 7 * p.length := fun h => by have := (bl_le _ _).1 h; omega
    constructor
    · intro _; exact .inr h0
    · intro _; omega
theorem numT_lt (t : Tk) (h : ∀ bs, t = some bs → bs.length ≤ 100000000000000) : (numT t).1 < 18446744073709551616 ∧ ∀ r, (numT t).2 = some r → r.length ≤ 100000000000000 := by
  rcases t with _ | bs
  · exact ⟨by simp [numT], by simp [numT]⟩
  · rcases hk : takeNum bs with _ | ⟨n, r⟩
    · simp only [numT, hk]
      exact ⟨by omega, fun r hr => by cases hr⟩
    · obtain ⟨h1, h2⟩ := takeNum_some hk
      simp only [numT, hk]
      refine ⟨h1, fun r' hr => ?_⟩
      simp only [Option.some.injEq] at hr
      subst hr
      have := h bs rfl
      have := congrArg List.length h2
      simp only [List.length_append] at this
      omega

theorem numT_none (t : Tk) (h : (numT t).2 = none) : (numT t).1 = 0 := by
  rcases t with _ | bs
  · rfl
  · rcases hk : takeNum bs with _ | ⟨n, r⟩
    · simp only [numT, hk]
    · simp only [numT, hk] at h
      cases h

end Go.Proofs.Ytkadildabhkocaa
