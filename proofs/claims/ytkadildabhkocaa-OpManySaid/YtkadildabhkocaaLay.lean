/- Proved here: what functions of the program compute, and plain laws. No condition. -/
import Derived.Test.YtkadildabhkocaaPutT
set_option linter.unusedSimpArgs false
set_option linter.unusedVariables false
namespace Go.Proofs.Ytkadildabhkocaa
open Go Go.AM

def I64 (n : Int) : Prop := -9223372036854775808 ≤ n ∧ n ≤ 9223372036854775807
def fold (n : Int) : Nat := if n < 0 then 2 * (-(n + 1)).toNat + 1 else 2 * n.toNat
def unfold' (u : Nat) : Int := if u % 2 = 1 then -((u / 2 : Nat) : Int) - 1 else ((u / 2 : Nat) : Int)

theorem fold_lt (n : Int) (h : I64 n) : fold n < 18446744073709551616 := by
  obtain ⟨h1, h2⟩ := h
  unfold fold; split <;> omega
theorem unfold_I64 (u : Nat) (h : u < 18446744073709551616) : I64 (unfold' u) := by
  unfold unfold' I64; split <;> omega
theorem unfold_fold (n : Int) : unfold' (fold n) = n := by
  unfold fold unfold'
  split
  · rw [if_pos (by omega)]; omega
  · rw [if_neg (by omega)]; omega
theorem fold_unfold (u : Nat) : fold (unfold' u) = u := by
  unfold fold unfold'
  split
  · rw [if_pos (by omega)]; omega
  · rw [if_neg (by omega)]; omega

theorem xorAll (a : Nat) (h : a < 18446744073709551616) : evBits .xor .u64 (a : Int) 18446744073709551615 = ((18446744073709551615 - a : Nat) : Int) := by
  have e1 : (18446744073709551615 : Int) = (((BitVec.allOnes 64).toNat : Nat) : Int) := by decide
  have e2 : (a : Int) = (((BitVec.ofNat 64 a).toNat : Nat) : Int) := by rw [BitVec.toNat_ofNat, Nat.mod_eq_of_lt h]
  rw [e1, e2, x64, BitVec.xor_allOnes, BitVec.toNat_not, BitVec.toNat_ofNat, Nat.mod_eq_of_lt (show a < 2 ^ 64 by omega)]
theorem xor0 (a : Nat) (h : a < 18446744073709551616) : evBits .xor .u64 (a : Int) 0 = (a : Int) := by
  have e1 : (0 : Int) = (((0#64).toNat : Nat) : Int) := by decide
  have e2 : (a : Int) = (((BitVec.ofNat 64 a).toNat : Nat) : Int) := by rw [BitVec.toNat_ofNat, Nat.mod_eq_of_lt h]
  rw [e1, e2, x64, BitVec.xor_zero]

theorem octsFold (n : Int) (h : I64 n) : AFun Try.prog 42 [int n] [] (u64 (fold n)) [] := by
  refine AFun.of_walk hP Try.func42 rfl rfl rfl (by simp) rfl ?_
  obtain ⟨h1, h2⟩ := h
  have key : evBits .xor .u64 (IntKind.u64.wrap (IntKind.u64.wrap n * 2 ^ min 1 IntKind.u64.bits)) (IntKind.u64.wrap (n.fdiv (2 ^ min 63 IntKind.i64.bits))) = ((fold n : Nat) : Int) := by
    have p1 : (2 : Int) ^ min 1 IntKind.u64.bits = 2 := by decide
    have p2 : (2 : Int) ^ min 63 IntKind.i64.bits = 9223372036854775808 := by decide
    rw [p1, p2]
    by_cases hn : n < 0
    · have e1 : n.fdiv 9223372036854775808 = -1 := by
        rw [Int.fdiv_eq_ediv_of_nonneg _ (by omega)]; omega
      have e2 : IntKind.u64.wrap (-1) = 18446744073709551615 := by decide
      have e3 : IntKind.u64.wrap (IntKind.u64.wrap n * 2) = (((2 * n + 18446744073709551616).toNat : Nat) : Int) := by
        rw [IntKind.wrap_u64, IntKind.wrap_u64]; omega
      rw [e1, e2, e3, xorAll _ (by omega)]
      unfold fold; rw [if_pos hn]; omega
    · have e1 : n.fdiv 9223372036854775808 = 0 := by
        rw [Int.fdiv_eq_ediv_of_nonneg _ (by omega)]; omega
      have e2 : IntKind.u64.wrap 0 = 0 := by decide
      have e3 : IntKind.u64.wrap (IntKind.u64.wrap n * 2) = (((2 * n).toNat : Nat) : Int) := by
        rw [IntKind.wrap_u64, IntKind.wrap_u64]; omega
      rw [e1, e2, e3, xor0 _ (by omega)]
      unfold fold; rw [if_neg hn]; omega
  simp only [Try.f42, int, u64, key, FinR, evRes, evRVs, evRV, am, simprocAttr, tys]
  exact ⟨_, [], [], rfl, Ent.plain rfl rfl rfl trivial rfl, rfl, rfl⟩

theorem octsOpen (u : Nat) (h : u < 18446744073709551616) : AFun Try.prog 67 [u64 u] [] (int (unfold' u)) [] := by
  refine AFun.of_walk hP Try.func67 rfl rfl rfl (by simp) rfl ?_
  have key : evBits .xor .i64 (IntKind.i64.wrap ((u : Int).fdiv (2 ^ min 1 IntKind.u64.bits))) (IntKind.i64.wrap (0 - IntKind.i64.wrap (evBits .and .u64 (u : Int) 1))) = unfold' u := by
    have p1 : (2 : Int) ^ min 1 IntKind.u64.bits = 2 := by decide
    have e1 : (u : Int).fdiv 2 = ((u / 2 : Nat) : Int) := by
      rw [Int.fdiv_eq_ediv_of_nonneg _ (by omega)]; rfl
    have e2 : evBits .and .u64 (u : Int) 1 = ((u % 2 : Nat) : Int) := by
      have g1 : (1 : Int) = (((1#64).toNat : Nat) : Int) := by decide
      have g2 : (u : Int) = (((BitVec.ofNat 64 u).toNat : Nat) : Int) := by rw [BitVec.toNat_ofNat, Nat.mod_eq_of_lt h]
      rw [g1, g2, n64, BitVec.toNat_and, BitVec.toNat_ofNat, Nat.mod_eq_of_lt (show u < 2 ^ 64 by omega)]
      show ((u &&& 1 : Nat) : Int) = _
      rw [Nat.and_one_is_mod]
    have e3 : IntKind.i64.wrap ((u / 2 : Nat) : Int) = ((u / 2 : Nat) : Int) := IntWalk.i64_in _ (by omega)
    have e4 : IntKind.i64.wrap ((u % 2 : Nat) : Int) = ((u % 2 : Nat) : Int) := IntWalk.i64_in _ (by omega)
    have e5 : IntKind.i64.wrap (0 - ((u % 2 : Nat) : Int)) = 0 - ((u % 2 : Nat) : Int) := IntWalk.i64_in _ (by omega)
    rw [p1, e1, e2, e3, e4, e5]
    have hb : ((u / 2 : Nat) : Int) = (((BitVec.ofNat 64 (u / 2)).toNat : Nat) : Int) := by rw [BitVec.toNat_ofNat, Nat.mod_eq_of_lt (by omega)]
    show IntKind.i64.wrap ((BitVec.ofInt 64 ((u / 2 : Nat) : Int) ^^^ BitVec.ofInt 64 (0 - ((u % 2 : Nat) : Int))).toNat : Int) = _
    rw [hb, ofInt_bv]
    unfold unfold'
    by_cases hu : u % 2 = 1
    · have g : BitVec.ofInt 64 (0 - ((u % 2 : Nat) : Int)) = BitVec.allOnes 64 := by rw [hu]; decide
      rw [g, BitVec.xor_allOnes, BitVec.toNat_not, BitVec.toNat_ofNat, Nat.mod_eq_of_lt (show u / 2 < 2 ^ 64 by omega), if_pos hu]
      rw [IntKind.wrap_i64]; omega
    · have hu0 : u % 2 = 0 := by omega
      have g : BitVec.ofInt 64 (0 - ((u % 2 : Nat) : Int)) = 0#64 := by rw [hu0]; decide
      rw [g, BitVec.xor_zero, BitVec.toNat_ofNat, Nat.mod_eq_of_lt (show u / 2 < 2 ^ 64 by omega), if_neg hu]
      rw [IntKind.wrap_i64]; omega
  simp only [Try.f67, int, u64, key, FinR, evRes, evRVs, evRV, am, simprocAttr, tys]
  exact ⟨_, [], [], rfl, Ent.plain rfl rfl rfl trivial rfl, rfl, rfl⟩

theorem refFold (n : Int) (h : I64 n) : AFun Try.prog 45 [int n] [] (u64 (fold n)) [] := by
  refine AFun.of_walk hP Try.func45 rfl rfl rfl (by simp) rfl ?_
  obtain ⟨h1, h2⟩ := h
  by_cases hn : n < 0
  · have e : IntKind.u64.wrap (IntKind.u64.wrap (IntKind.u64.wrap (IntKind.i64.wrap (0 - IntKind.i64.wrap (n + 1))) * 2) + 1) = ((fold n : Nat) : Int) := by
      rw [IntWalk.i64_in (n + 1) (by omega), IntWalk.i64_in _ (by omega), IntWalk.u64_in (0 - (n + 1)) (by omega), IntWalk.u64_in ((0 - (n + 1)) * 2) (by omega), IntWalk.u64_in _ (by omega)]
      unfold fold; rw [if_pos hn]; omega
    simp only [Try.f45, int, u64, hn, e, FinR, evRes, evRVs, evRV, am, simprocAttr, tys]
    exact ⟨_, [], [], rfl, Ent.plain rfl rfl rfl trivial rfl, rfl, rfl⟩
  · have e : IntKind.u64.wrap (IntKind.u64.wrap n * 2) = ((fold n : Nat) : Int) := by
      rw [IntWalk.u64_in n (by omega), IntWalk.u64_in _ (by omega)]
      unfold fold; rw [if_neg hn]; omega
    simp only [Try.f45, int, u64, hn, e, FinR, evRes, evRVs, evRV, am, simprocAttr, tys]
    exact ⟨_, [], [], rfl, Ent.plain rfl rfl rfl trivial rfl, rfl, rfl⟩

theorem refOpen (u : Nat) (h : u < 18446744073709551616) : AFun Try.prog 61 [u64 u] [] (int (unfold' u)) [] := by
  refine AFun.of_walk hP Try.func61 rfl rfl rfl (by simp) rfl ?_
  have e1 : (u : Int).tmod 2 = ((u % 2 : Nat) : Int) := rfl
  have e2 : IntKind.u64.wrap ((u : Int).tdiv 2) = ((u / 2 : Nat) : Int) := IntWalk.u64_in _ (by have : (u : Int).tdiv 2 = ((u / 2 : Nat) : Int) := rfl; omega)
  have e3 : IntKind.i64.wrap ((u / 2 : Nat) : Int) = ((u / 2 : Nat) : Int) := IntWalk.i64_in _ (by omega)
  have e4 : IntKind.i64.wrap (0 - ((u / 2 : Nat) : Int)) = 0 - ((u / 2 : Nat) : Int) := IntWalk.i64_in _ (by omega)
  have e5 : IntKind.i64.wrap (0 - ((u / 2 : Nat) : Int) - 1) = 0 - ((u / 2 : Nat) : Int) - 1 := IntWalk.i64_in _ (by omega)
  by_cases hu : u % 2 = 1
  · have e6 : (((u % 2 : Nat) : Int) == 1) = true := by rw [beq_iff_eq]; omega
    have e7 : unfold' u = 0 - ((u / 2 : Nat) : Int) - 1 := by unfold unfold'; rw [if_pos hu]; omega
    simp only [Try.f61, int, u64, e1, e2, e3, e4, e5, e6, e7, FinR, evRes, evRVs, evRV, am, simprocAttr, tys]
    exact ⟨_, [], [], rfl, Ent.plain rfl rfl rfl trivial rfl, rfl, rfl⟩
  · have e6 : (((u % 2 : Nat) : Int) == 1) = false := by rw [beq_eq_false_iff_ne]; omega
    have e7 : unfold' u = ((u / 2 : Nat) : Int) := by unfold unfold'; rw [if_neg hu]
    simp only [Try.f61, int, u64, e1, e2, e3, e6, e7, FinR, evRes, evRVs, evRV, am, simprocAttr, tys]
    exact ⟨_, [], [], rfl, Ent.plain rfl rfl rfl trivial rfl, rfl, rfl⟩

def lebI (n : Int) : List UInt8 := leb (fold n)

theorem octsPutInt (bs : List UInt8) (n : Int) (hl : bs.length ≤ 100000000000000) (hn : I64 n) :
    AFun Try.prog 20 [byts bs, int n] [] (.own 0) [.own 1 ((bs ++ lebI n).map encB)] := by
  refine AFun.of_walk hP Try.func20 rfl rfl rfl (by simp) rfl ?_
  simp only [Try.f20, byts, int, am, simprocAttr, tys]
  refine ACall.of (octsFold n hn) [] [] rfl (by simp) (by simp) (by simp) (by repeat' (first | exact trivial | exact .inl rfl | exact .inr rfl | exact .inr ⟨rfl, by simp⟩ | exact .inr ⟨rfl, rfl, by simp⟩ | apply And.intro)) (by repeat' (first | exact trivial | rfl | exact (tkC_ren.1 _ _).symm | (simp; done) | apply And.intro)) (by first | exact .inl rfl | (refine .inr ⟨trivial, ?_⟩; first | (intro row h; rcases List.mem_singleton.1 h with rfl; exact nvB _) | (intro row h; cases h; done) | (simp; done)) | (refine .inr ⟨by simp [nvP, nvP.nvPs, nvD, nilS, errno], ?_⟩; first | (intro row h; rcases List.mem_singleton.1 h with rfl; exact nvB _) | (intro row h; cases h; done) | (simp [nvRow, nvD, nvP]; done))) ?_
  simp only [u64, am, simprocAttr, tys]
  refine ACall.of (octsPut bs (fold n) hl (fold_lt n hn)) [] [] rfl (by simp) (by simp) (by simp) (by repeat' (first | exact trivial | exact .inl rfl | exact .inr rfl | exact .inr ⟨rfl, by simp⟩ | exact .inr ⟨rfl, rfl, by simp⟩ | apply And.intro)) (by repeat' (first | exact trivial | rfl | exact (tkC_ren.1 _ _).symm | (simp; done) | apply And.intro)) (by first | exact .inl rfl | (refine .inr ⟨trivial, ?_⟩; first | (intro row h; rcases List.mem_singleton.1 h with rfl; exact nvB _) | (intro row h; cases h; done) | (simp; done)) | (refine .inr ⟨by simp [nvP, nvP.nvPs, nvD, nilS, errno], ?_⟩; first | (intro row h; rcases List.mem_singleton.1 h with rfl; exact nvB _) | (intro row h; cases h; done) | (simp [nvRow, nvD, nvP]; done))) ?_
  simp only [lebI, FinR, evRes, evRVs, evRV, am, simprocAttr, tys]
  exact ⟨_, [], [0], rfl, ⟨rfl, rfl, by simp, (fun i hi => absurd hi (Nat.not_lt_zero _)), trivial, ⟨.inr ⟨by decide, rfl⟩, trivial⟩, rfl, by decide, rfl, (by first | rfl | simp [scRow, tkC_scs])⟩, rfl, rfl⟩

theorem refPutInt (bs : List UInt8) (n : Int) (hl : bs.length ≤ 100000000000000) (hn : I64 n) :
    AFun Try.prog 23 [byts bs, int n] [] (.own 0) [.own 1 ((bs ++ lebI n).map encB)] := by
  refine AFun.of_walk hP Try.func23 rfl rfl rfl (by simp) rfl ?_
  simp only [Try.f23, byts, int, am, simprocAttr, tys]
  refine ACall.of (refFold n hn) [] [] rfl (by simp) (by simp) (by simp) (by repeat' (first | exact trivial | exact .inl rfl | exact .inr rfl | exact .inr ⟨rfl, by simp⟩ | exact .inr ⟨rfl, rfl, by simp⟩ | apply And.intro)) (by repeat' (first | exact trivial | rfl | exact (tkC_ren.1 _ _).symm | (simp; done) | apply And.intro)) (by first | exact .inl rfl | (refine .inr ⟨trivial, ?_⟩; first | (intro row h; rcases List.mem_singleton.1 h with rfl; exact nvB _) | (intro row h; cases h; done) | (simp; done)) | (refine .inr ⟨by simp [nvP, nvP.nvPs, nvD, nilS, errno], ?_⟩; first | (intro row h; rcases List.mem_singleton.1 h with rfl; exact nvB _) | (intro row h; cases h; done) | (simp [nvRow, nvD, nvP]; done))) ?_
  simp only [u64, am, simprocAttr, tys]
  refine ACall.of (refPut bs (fold n) hl (fold_lt n hn)) [] [] rfl (by simp) (by simp) (by simp) (by repeat' (first | exact trivial | exact .inl rfl | exact .inr rfl | exact .inr ⟨rfl, by simp⟩ | exact .inr ⟨rfl, rfl, by simp⟩ | apply And.intro)) (by repeat' (first | exact trivial | rfl | exact (tkC_ren.1 _ _).symm | (simp; done) | apply And.intro)) (by first | exact .inl rfl | (refine .inr ⟨trivial, ?_⟩; first | (intro row h; rcases List.mem_singleton.1 h with rfl; exact nvB _) | (intro row h; cases h; done) | (simp; done)) | (refine .inr ⟨by simp [nvP, nvP.nvPs, nvD, nilS, errno], ?_⟩; first | (intro row h; rcases List.mem_singleton.1 h with rfl; exact nvB _) | (intro row h; cases h; done) | (simp [nvRow, nvD, nvP]; done))) ?_
  simp only [lebI, FinR, evRes, evRVs, evRV, am, simprocAttr, tys]
  exact ⟨_, [], [0], rfl, ⟨rfl, rfl, by simp, (fun i hi => absurd hi (Nat.not_lt_zero _)), trivial, ⟨.inr ⟨by decide, rfl⟩, trivial⟩, rfl, by decide, rfl, (by first | rfl | simp [scRow, tkC_scs])⟩, rfl, rfl⟩

end Go.Proofs.Ytkadildabhkocaa
