/- Proved here: what functions of the program compute, and plain laws. No condition. -/
import Derived.Test.YtkadildabhkocaaTake
set_option linter.unusedSimpArgs false
set_option linter.unusedVariables false
namespace Go.Proofs.Ytkadildabhkocaa
open Go Go.AM

theorem takeNum_stop9 (bs : List UInt8) (i : Nat) (hi : i = 9) (hp : (bs.take i).all isC = true) (c : UInt8) (hc : bs[i]? = some c) (h1 : 1 < c.toNat) : takeNum bs = none := by
  subst hi
  have hlt : 9 < bs.length := by
    rcases Nat.lt_or_ge 9 bs.length with h | h
    · exact h
    · rw [List.getElem?_eq_none h] at hc; cases hc
  have e : bs = bs.take 9 ++ c :: bs.drop 10 := by
    conv => lhs; rw [← List.take_append_drop 9 bs]
    rw [List.drop_eq_getElem_cons hlt]
    rw [List.getElem?_eq_getElem hlt] at hc
    cases hc; rfl
  rw [e]
  exact takeNum_nine _ _ _ hp (by rw [List.length_take]; omega) h1

theorem takeNum_cut (bs : List UInt8) (i : Nat) (hlt : i < bs.length) (hp : (bs.take i).all isC = true) (hc : bs[i].toNat < 128) :
    takeNum bs = if (i = 0 ∨ bs[i].toNat ≠ 0) ∧ val (bs.take (i + 1)) < 18446744073709551616 then some (val (bs.take (i + 1)), bs.drop (i + 1)) else none := by
  have e : bs = bs.take i ++ bs[i] :: bs.drop (i + 1) := by
    conv => lhs; rw [← List.take_append_drop i bs]
    rw [List.drop_eq_getElem_cons hlt]
  have e2 : bs.take (i + 1) = bs.take i ++ [bs[i]] := List.take_succ_eq_append_getElem hlt
  have e3 : (bs.take i = []) ↔ i = 0 := by
    rw [List.take_eq_nil_iff]
    constructor
    · rintro (h | h)
      · exact h
      · subst h; simp at hlt
    · exact .inl
  conv => lhs; rw [e]
  rw [takeNum_at _ _ _ hp hc, e2]
  simp only [e3]

theorem val_take_lt (bs : List UInt8) (i : Nat) (hlt : i < bs.length) (h : i ≤ 8 ∨ i = 9 ∧ bs[i].toNat ≤ 1) : val (bs.take (i + 1)) < 18446744073709551616 := by
  rw [List.take_succ_eq_append_getElem hlt, val_snoc]
  have hv := val_lt (bs.take i)
  have hl : (bs.take i).length = i := by rw [List.length_take]; omega
  rw [hl] at hv ⊢
  have hm : bs[i].toNat % 128 < 128 := Nat.mod_lt _ (by omega)
  rcases h with h | ⟨h, hc⟩
  · have h1 : (128 : Nat) ^ i * (bs[i].toNat % 128) ≤ 128 ^ i * 127 := Nat.mul_le_mul_left _ (by omega)
    have h2 : (128 : Nat) ^ i ≤ 72057594037927936 := Nat.pow_le_pow_right (n := 128) (by omega) (show i ≤ 8 by omega)
    omega
  · have h2 : (128 : Nat) ^ i = 9223372036854775808 := by rw [h]
    have h1 : (128 : Nat) ^ i * (bs[i].toNat % 128) ≤ 128 ^ i * 1 := Nat.mul_le_mul_left _ (by omega)
    omega

theorem tkNum (t : Tk) (hl : ∀ bs, t = some bs → bs.length ≤ 100000000000000) : AFun Try.prog 54 [.ptr 0 0] [.box (tkC t)] (u64 (numT t).1) [.box (tkC (numT t).2)] := by
  refine AFun.of_walk hP Try.func54 rfl rfl rfl (by simp) rfl ?_
  rcases t with _ | bs
  · simp only [Try.f54, tkC, byts, bool, u64, numT, am, simprocAttr, tys]
    refine ALoopW.intro 62 1 (ι := Unit) (fun i => [(0, .ptr 0 0), (11, .d (.lit (.slice none 0 0))), (12, .d (.lit (.int .i64 0))), (13, .d (.lit (.int .i64 0)))]) (fun _ => [.box [.d (.lit (.slice none 0 0)), .d (.lit (.bool true))]]) (fun _ => 0) () [] [0] ?_ (fun _ => ?_)
    · exact ⟨rfl, rfl, by simp, (fun i hi => .inr ((by decide : ∀ i, i < 1 → ([0] : List Nat).getD i 0 = i) i hi)), ⟨.inr rfl, .inr rfl, .inr rfl, .inr rfl, trivial⟩, ⟨.inr ⟨by decide, rfl⟩, trivial⟩, rfl, by decide, rfl, (by first | rfl | simp [scRow, tkC_scs])⟩
    simp only [am, simprocAttr, tys]
    refine ACall.of (tkFail none) [0] [] rfl (by simp) (by simp) (by simp) (by repeat' (first | exact trivial | exact .inl rfl | exact .inr rfl | exact .inr ⟨rfl, by simp⟩ | exact .inr ⟨rfl, rfl, by simp⟩ | apply And.intro)) (by repeat' (first | exact trivial | rfl | exact (tkC_ren.1 _ _).symm | (simp; done) | apply And.intro)) (by first | exact .inl rfl | (refine .inr ⟨trivial, ?_⟩; first | (intro row h; rcases List.mem_singleton.1 h with rfl; exact nvB _) | (intro row h; cases h; done) | (simp; done)) | (refine .inr ⟨by simp [nvP, nvP.nvPs, nvD, nilS, errno], ?_⟩; first | (intro row h; rcases List.mem_singleton.1 h with rfl; exact nvB _) | (intro row h; cases h; done) | (simp [nvRow, nvD, nvP]; done))) ?_
    simp only [tkC, bool, FinR, evRes, evRVs, evRV, am, simprocAttr, tys]
    exact ⟨_, [], [0], rfl, ⟨rfl, rfl, by simp, (fun i hi => .inr ((by decide : ∀ i, i < 1 → ([0] : List Nat).getD i 0 = i) i hi)), trivial, ⟨.inr ⟨by decide, rfl⟩, trivial⟩, rfl, by decide, rfl, (by first | rfl | simp [scRow, tkC_scs])⟩, rfl, rfl⟩
  · have hbl := hl bs rfl
    simp only [Try.f54, tkC, byts, bool, u64, am, simprocAttr, tys]
    refine ALoopW.intro 62 1 (ι := { i : Nat // i ≤ 9 ∧ i ≤ bs.length ∧ (bs.take i).all isC = true }) (fun i => [(0, .ptr 0 0), (3, .d (.lit (.int .u64 (val (bs.take i.1))))), (11, .d (.sl 1 (bs.map encB))), (12, .d (.lit (.int .i64 bs.length))), (13, .d (.lit (.int .i64 i.1)))]) (fun _ => [.box [.d (.sl 1 (bs.map encB)), .d (.lit (.bool false))]]) (fun i => bs.length - i.1) ⟨0, by omega, by omega, by simp⟩ [] [0] ?_ (fun ⟨i, hi9, hi, hall⟩ => ?_)
    · exact ⟨rfl, rfl, by simp, (fun i hi => .inr ((by decide : ∀ i, i < 1 → ([0] : List Nat).getD i 0 = i) i hi)), ⟨.inr rfl, .inr rfl, .inr rfl, .inr rfl, .inr rfl, trivial⟩, ⟨.inr ⟨by decide, rfl⟩, trivial⟩, rfl, by decide, rfl, (by first | rfl | simp [scRow, tkC_scs])⟩
    have hil : (bs.take i).length = i := by rw [List.length_take]; omega
    rcases Nat.lt_or_ge i bs.length with hlt | hge
    · have hb : bs[i]? = some bs[i] := List.getElem?_eq_getElem hlt
      have hlt2 : ((i : Int) < bs.length) := by omega
      have e1 : IntKind.i64.wrap ((i : Int) + 1) = ((i + 1 : Nat) : Int) := by rw [IntWalk.i64_in _ (by omega)]; simp
      have e7 : IntKind.i64.wrap (7 * (i : Int)) = 7 * (i : Int) := IntWalk.i64_in _ (by omega)
      have h10 : ((i : Int) == 10) = false := by rw [beq_eq_false_iff_ne]; omega
      have e70 : ((0 : Int) ≤ 7 * (i : Int)) := by omega
      by_cases h9 : i = 9 ∧ 1 < bs[i].toNat
      · obtain ⟨h9, hc⟩ := h9
        have hcI : ((1 : Int) < bs[i].toNat) := by omega
        have ht := takeNum_stop9 bs i h9 hall _ hb hc
        have h9b : ((i : Int) == 9) = true := by rw [beq_iff_eq]; omega
        simp only [hb, hlt2, encB, h10, h9b, hcI, Int.natCast_nonneg, am, simprocAttr, tys]
        refine ACall.of (tkFail (some bs)) [0] [] rfl (by simp) (by simp) (by simp) (by repeat' (first | exact trivial | exact .inl rfl | exact .inr rfl | exact .inr ⟨rfl, by simp⟩ | exact .inr ⟨rfl, rfl, by simp⟩ | apply And.intro)) (by repeat' (first | exact trivial | rfl | exact (tkC_ren.1 _ _).symm | (simp; done) | apply And.intro)) (by first | exact .inl rfl | (refine .inr ⟨trivial, ?_⟩; first | (intro row h; rcases List.mem_singleton.1 h with rfl; exact nvB _) | (intro row h; cases h; done) | (simp; done)) | (refine .inr ⟨by simp [nvP, nvP.nvPs, nvD, nilS, errno], ?_⟩; first | (intro row h; rcases List.mem_singleton.1 h with rfl; exact nvB _) | (intro row h; cases h; done) | (simp [nvRow, nvD, nvP]; done))) ?_
        simp only [ht, numT, tkC, bool, FinR, evRes, evRVs, evRV, am, simprocAttr, tys]
        exact ⟨_, [], [0], rfl, ⟨rfl, rfl, by simp, (fun i hi => .inr ((by decide : ∀ i, i < 1 → ([0] : List Nat).getD i 0 = i) i hi)), trivial, ⟨.inr ⟨by decide, rfl⟩, trivial⟩, rfl, by decide, rfl, (by first | rfl | simp [scRow, tkC_scs])⟩, rfl, rfl⟩
      · have hor : i ≤ 8 ∨ i = 9 ∧ bs[i].toNat ≤ 1 := by omega
        have hacc := acc_or (bs.take i) bs[i] (by rw [hil]; exact hor)
        rw [hil, ← List.take_succ_eq_append_getElem hlt] at hacc
        have hvl := val_take_lt bs i hlt hor
        have hlen2 : (bs.take (i + 1)).length = i + 1 := by rw [List.length_take]; omega
        -- what is asked at the head
        have hcond : (if ((i : Int) == 9) = true then decide ((1 : Int) < (bs[i].toNat : Int)) else false) = false := by
          split
          · rename_i h
            have : i = 9 := by have := eq_of_beq h; omega
            rw [decide_eq_false_iff_not]; omega
          · rfl
        by_cases hc : isC bs[i] = true
        · have hc' : 128 ≤ bs[i].toNat := of_decide_eq_true hc
          by_cases hi9' : (i : Int) = 9
          · exfalso; omega
          · have h9b : ((i : Int) == 9) = false := by rw [beq_eq_false_iff_ne]; exact hi9'
            simp only [hb, hlt2, encB, h10, h9b, e7, e70, hacc, and128, hc, e1, Int.natCast_nonneg, am, simprocAttr, tys]
            refine ⟨⟨i + 1, by omega, by omega, ?_⟩, [], [0], ⟨rfl, rfl, by simp, (fun i hi => .inr ((by decide : ∀ i, i < 1 → ([0] : List Nat).getD i 0 = i) i hi)), ⟨.inr rfl, .inr rfl, .inr rfl, .inr rfl, .inr rfl, trivial⟩, ⟨.inr ⟨by decide, rfl⟩, trivial⟩, rfl, by decide, rfl, (by first | rfl | simp [scRow, tkC_scs])⟩, by show bs.length - (i + 1) < bs.length - i; omega⟩
            rw [List.take_succ_eq_append_getElem hlt]
            simp only [List.all_append, hall, List.all_cons, List.all_nil, hc, Bool.and_self]
        · have hc' : bs[i].toNat < 128 := by
            have : ¬ 128 ≤ bs[i].toNat := fun h => hc (decide_eq_true h)
            omega
          have hcf : isC bs[i] = false := by simpa using hc
          have hcut := takeNum_cut bs i hlt hall hc'
          have hbl := val_snoc_bl (bs.take i) bs[i] hc' (by rw [hil]; omega)
          rw [hil, ← List.take_succ_eq_append_getElem hlt] at hbl
          have hb64 := (bl_le (val (bs.take (i + 1))) 64).2 (by omega)
          have e2 : IntKind.i64.wrap ((bl (val (bs.take (i + 1))) : Int) + 7) = ((bl (val (bs.take (i + 1))) + 7 : Nat) : Int) := by rw [IntWalk.i64_in _ (by omega)]; simp
          have e3 : IntKind.i64.wrap (((bl (val (bs.take (i + 1))) + 7 : Nat) : Int) - 1) = ((bl (val (bs.take (i + 1))) + 6 : Nat) : Int) := by rw [IntWalk.i64_in _ (by omega)]; omega
          have e4 : IntKind.i64.wrap ((((bl (val (bs.take (i + 1))) + 6 : Nat) : Int)).tdiv 7) = (((bl (val (bs.take (i + 1))) + 6) / 7 : Nat) : Int) := by
            have : (((bl (val (bs.take (i + 1))) + 6 : Nat) : Int)).tdiv 7 = (((bl (val (bs.take (i + 1))) + 6) / 7 : Nat) : Int) := rfl
            rw [this, IntWalk.i64_in _ (by omega)]
          have e5 : (((i + 1 : Nat) : Int) != (if (1 : Int) < (((bl (val (bs.take (i + 1))) + 6) / 7 : Nat) : Int) then (((bl (val (bs.take (i + 1))) + 6) / 7 : Nat) : Int) else 1)) = !(decide (i = 0 ∨ bs[i].toNat ≠ 0)) := by
            have e3 : (bs.take i = []) ↔ i = 0 := by
              rw [List.take_eq_nil_iff]
              constructor
              · rintro (h | h)
                · exact h
                · subst h; simp at hlt
              · exact .inl
            rw [e3] at hbl
            rw [← decide_eq_decide.2 hbl, bne, Bool.not_inj_iff, Bool.eq_iff_iff, beq_iff_eq, decide_eq_true_eq]
            split <;> omega
          rcases hok : decide (i = 0 ∨ bs[i].toNat ≠ 0) with _ | _
          · rw [hok] at e5
            rw [decide_eq_false_iff_not] at hok
            rw [if_neg (fun h => hok h.1)] at hcut
            rcases h9b : ((i : Int) == 9) with _ | _
            · simp only [hb, hlt2, encB, h10, h9b, e7, e70, hacc, and128, hcf, e1, Int.natCast_nonneg, am, simprocAttr, tys]
              refine ACall.of (len64 (val (bs.take (i + 1))) hvl) [] [] rfl (by simp) (by simp) (by simp) (by repeat' (first | exact trivial | exact .inl rfl | exact .inr rfl | exact .inr ⟨rfl, by simp⟩ | exact .inr ⟨rfl, rfl, by simp⟩ | apply And.intro)) (by repeat' (first | exact trivial | rfl | exact (tkC_ren.1 _ _).symm | (simp; done) | apply And.intro)) (by first | exact .inl rfl | (refine .inr ⟨trivial, ?_⟩; first | (intro row h; rcases List.mem_singleton.1 h with rfl; exact nvB _) | (intro row h; cases h; done) | (simp; done)) | (refine .inr ⟨by simp [nvP, nvP.nvPs, nvD, nilS, errno], ?_⟩; first | (intro row h; rcases List.mem_singleton.1 h with rfl; exact nvB _) | (intro row h; cases h; done) | (simp [nvRow, nvD, nvP]; done))) ?_
              simp only [int, e2, e3, e4, e5, am, simprocAttr, tys]
              refine ACall.of (tkFail (some bs)) [0] [] rfl (by simp) (by simp) (by simp) (by repeat' (first | exact trivial | exact .inl rfl | exact .inr rfl | exact .inr ⟨rfl, by simp⟩ | exact .inr ⟨rfl, rfl, by simp⟩ | apply And.intro)) (by repeat' (first | exact trivial | rfl | exact (tkC_ren.1 _ _).symm | (simp; done) | apply And.intro)) (by first | exact .inl rfl | (refine .inr ⟨trivial, ?_⟩; first | (intro row h; rcases List.mem_singleton.1 h with rfl; exact nvB _) | (intro row h; cases h; done) | (simp; done)) | (refine .inr ⟨by simp [nvP, nvP.nvPs, nvD, nilS, errno], ?_⟩; first | (intro row h; rcases List.mem_singleton.1 h with rfl; exact nvB _) | (intro row h; cases h; done) | (simp [nvRow, nvD, nvP]; done))) ?_
              simp only [hcut, numT, tkC, bool, FinR, evRes, evRVs, evRV, am, simprocAttr, tys]
              exact ⟨_, [], [0], rfl, ⟨rfl, rfl, by simp, (fun i hi => .inr ((by decide : ∀ i, i < 1 → ([0] : List Nat).getD i 0 = i) i hi)), trivial, ⟨.inr ⟨by decide, rfl⟩, trivial⟩, rfl, by decide, rfl, (by first | rfl | simp [scRow, tkC_scs])⟩, rfl, rfl⟩
            · have h1 : ¬ ((1 : Int) < (bs[i].toNat : Int)) := by
                have : (i : Int) = 9 := eq_of_beq h9b
                omega
              simp only [hb, hlt2, encB, h10, h9b, h1, e7, e70, hacc, and128, hcf, e1, Int.natCast_nonneg, am, simprocAttr, tys]
              refine ACall.of (len64 (val (bs.take (i + 1))) hvl) [] [] rfl (by simp) (by simp) (by simp) (by repeat' (first | exact trivial | exact .inl rfl | exact .inr rfl | exact .inr ⟨rfl, by simp⟩ | exact .inr ⟨rfl, rfl, by simp⟩ | apply And.intro)) (by repeat' (first | exact trivial | rfl | exact (tkC_ren.1 _ _).symm | (simp; done) | apply And.intro)) (by first | exact .inl rfl | (refine .inr ⟨trivial, ?_⟩; first | (intro row h; rcases List.mem_singleton.1 h with rfl; exact nvB _) | (intro row h; cases h; done) | (simp; done)) | (refine .inr ⟨by simp [nvP, nvP.nvPs, nvD, nilS, errno], ?_⟩; first | (intro row h; rcases List.mem_singleton.1 h with rfl; exact nvB _) | (intro row h; cases h; done) | (simp [nvRow, nvD, nvP]; done))) ?_
              simp only [int, e2, e3, e4, e5, am, simprocAttr, tys]
              refine ACall.of (tkFail (some bs)) [0] [] rfl (by simp) (by simp) (by simp) (by repeat' (first | exact trivial | exact .inl rfl | exact .inr rfl | exact .inr ⟨rfl, by simp⟩ | exact .inr ⟨rfl, rfl, by simp⟩ | apply And.intro)) (by repeat' (first | exact trivial | rfl | exact (tkC_ren.1 _ _).symm | (simp; done) | apply And.intro)) (by first | exact .inl rfl | (refine .inr ⟨trivial, ?_⟩; first | (intro row h; rcases List.mem_singleton.1 h with rfl; exact nvB _) | (intro row h; cases h; done) | (simp; done)) | (refine .inr ⟨by simp [nvP, nvP.nvPs, nvD, nilS, errno], ?_⟩; first | (intro row h; rcases List.mem_singleton.1 h with rfl; exact nvB _) | (intro row h; cases h; done) | (simp [nvRow, nvD, nvP]; done))) ?_
              simp only [hcut, numT, tkC, bool, FinR, evRes, evRVs, evRV, am, simprocAttr, tys]
              exact ⟨_, [], [0], rfl, ⟨rfl, rfl, by simp, (fun i hi => .inr ((by decide : ∀ i, i < 1 → ([0] : List Nat).getD i 0 = i) i hi)), trivial, ⟨.inr ⟨by decide, rfl⟩, trivial⟩, rfl, by decide, rfl, (by first | rfl | simp [scRow, tkC_scs])⟩, rfl, rfl⟩
          · rw [hok] at e5
            rw [decide_eq_true_eq] at hok
            rw [if_pos ⟨hok, hvl⟩] at hcut
            have hle : ((i + 1 : Nat) : Int) ≤ bs.length := by omega
            rcases h9b : ((i : Int) == 9) with _ | _
            · simp only [hb, hlt2, encB, h10, h9b, e7, e70, hacc, and128, hcf, e1, Int.natCast_nonneg, am, simprocAttr, tys]
              refine ACall.of (len64 (val (bs.take (i + 1))) hvl) [] [] rfl (by simp) (by simp) (by simp) (by repeat' (first | exact trivial | exact .inl rfl | exact .inr rfl | exact .inr ⟨rfl, by simp⟩ | exact .inr ⟨rfl, rfl, by simp⟩ | apply And.intro)) (by repeat' (first | exact trivial | rfl | exact (tkC_ren.1 _ _).symm | (simp; done) | apply And.intro)) (by first | exact .inl rfl | (refine .inr ⟨trivial, ?_⟩; first | (intro row h; rcases List.mem_singleton.1 h with rfl; exact nvB _) | (intro row h; cases h; done) | (simp; done)) | (refine .inr ⟨by simp [nvP, nvP.nvPs, nvD, nilS, errno], ?_⟩; first | (intro row h; rcases List.mem_singleton.1 h with rfl; exact nvB _) | (intro row h; cases h; done) | (simp [nvRow, nvD, nvP]; done))) ?_
              simp only [int, e2, e3, e4, e5, e1, hcut, numT, tkC, byts, bool, ← List.map_take, ← List.map_drop, List.take_length, FinR, evRes, evRVs, evRV, am, simprocAttr, tys]
              exact ⟨by omega, ⟨_, [], [0], rfl, ⟨rfl, rfl, by simp, (fun i hi => .inr ((by decide : ∀ i, i < 1 → ([0] : List Nat).getD i 0 = i) i hi)), trivial, ⟨.inr ⟨by decide, rfl⟩, trivial⟩, rfl, by decide, rfl, (by first | rfl | simp [scRow, tkC_scs])⟩, rfl, rfl⟩⟩
            · have h1 : ¬ ((1 : Int) < (bs[i].toNat : Int)) := by
                have : (i : Int) = 9 := eq_of_beq h9b
                omega
              simp only [hb, hlt2, encB, h10, h9b, h1, e7, e70, hacc, and128, hcf, e1, Int.natCast_nonneg, am, simprocAttr, tys]
              refine ACall.of (len64 (val (bs.take (i + 1))) hvl) [] [] rfl (by simp) (by simp) (by simp) (by repeat' (first | exact trivial | exact .inl rfl | exact .inr rfl | exact .inr ⟨rfl, by simp⟩ | exact .inr ⟨rfl, rfl, by simp⟩ | apply And.intro)) (by repeat' (first | exact trivial | rfl | exact (tkC_ren.1 _ _).symm | (simp; done) | apply And.intro)) (by first | exact .inl rfl | (refine .inr ⟨trivial, ?_⟩; first | (intro row h; rcases List.mem_singleton.1 h with rfl; exact nvB _) | (intro row h; cases h; done) | (simp; done)) | (refine .inr ⟨by simp [nvP, nvP.nvPs, nvD, nilS, errno], ?_⟩; first | (intro row h; rcases List.mem_singleton.1 h with rfl; exact nvB _) | (intro row h; cases h; done) | (simp [nvRow, nvD, nvP]; done))) ?_
              simp only [int, e2, e3, e4, e5, e1, hcut, numT, tkC, byts, bool, ← List.map_take, ← List.map_drop, List.take_length, FinR, evRes, evRVs, evRV, am, simprocAttr, tys]
              exact ⟨by omega, ⟨_, [], [0], rfl, ⟨rfl, rfl, by simp, (fun i hi => .inr ((by decide : ∀ i, i < 1 → ([0] : List Nat).getD i 0 = i) i hi)), trivial, ⟨.inr ⟨by decide, rfl⟩, trivial⟩, rfl, by decide, rfl, (by first | rfl | simp [scRow, tkC_scs])⟩, rfl, rfl⟩⟩
    · have hlt2 : ¬ ((i : Int) < bs.length) := by omega
      have hi' : i = bs.length := by omega
      have ht : takeNum bs = none := takeNum_all bs (by rw [hi', List.take_length] at hall; exact hall)
      simp only [hlt2, am, simprocAttr, tys]
      refine ACall.of (tkFail (some bs)) [0] [] rfl (by simp) (by simp) (by simp) (by repeat' (first | exact trivial | exact .inl rfl | exact .inr rfl | exact .inr ⟨rfl, by simp⟩ | exact .inr ⟨rfl, rfl, by simp⟩ | apply And.intro)) (by repeat' (first | exact trivial | rfl | exact (tkC_ren.1 _ _).symm | (simp; done) | apply And.intro)) (by first | exact .inl rfl | (refine .inr ⟨trivial, ?_⟩; first | (intro row h; rcases List.mem_singleton.1 h with rfl; exact nvB _) | (intro row h; cases h; done) | (simp; done)) | (refine .inr ⟨by simp [nvP, nvP.nvPs, nvD, nilS, errno], ?_⟩; first | (intro row h; rcases List.mem_singleton.1 h with rfl; exact nvB _) | (intro row h; cases h; done) | (simp [nvRow, nvD, nvP]; done))) ?_
      simp only [ht, numT, tkC, bool, FinR, evRes, evRVs, evRV, am, simprocAttr, tys]
      exact ⟨_, [], [0], rfl, ⟨rfl, rfl, by simp, (fun i hi => .inr ((by decide : ∀ i, i < 1 → ([0] : List Nat).getD i 0 = i) i hi)), trivial, ⟨.inr ⟨by decide, rfl⟩, trivial⟩, rfl, by decide, rfl, (by first | rfl | simp [scRow, tkC_scs])⟩, rfl, rfl⟩
end Go.Proofs.Ytkadildabhkocaa
