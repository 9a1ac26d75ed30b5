/- Proved here: what the functions of the program compute. No condition. -/
import Derived.Test.YtflpphgccjlkjaaT3
import Derived.Test.YtflpphgccjlkjaaT2
import Derived.Test.YtflpphgccjlkjaaT1
set_option linter.all false
set_option linter.unusedSimpArgs false
set_option linter.unusedVariables false
set_option linter.unusedSimpArgs false
set_option linter.unusedVariables false
namespace Go.Proofs.Ytflpphgccjlkjaa
open Go Go.AM

theorem takeNum_stop9 (bs : List UInt8) (i : Nat) (hi : i = 9) (hp : (bs.take i).all isC = true) (c : UInt8) (hc : bs[i]? = some c) (h1 : 1 < c.toNat) : takeNum bs = none := by
  subst hi
  have hlt : 9 < bs.length := by
    rcases Nat.lt_or_ge 9 bs.length with h | h
    · exact h
    · rw [List.getElem?_eq_none h] at hc; cases hc
  have e : bs = bs.take 9 ++ c :: bs.drop 10 := by
    conv => lhs; rw [← List.take_append_drop 9 bs]
    rw [List.drop_eq_getElem_cons hlt]
    rw [List.getElem?_eq_getElem hlt] at hc
    cases hc; rfl
  rw [e]
  exact takeNum_nine _ _ _ hp (by rw [List.length_take]; omega) h1

theorem takeNum_cut (bs : List UInt8) (i : Nat) (hlt : i < bs.length) (hp : (bs.take i).all isC = true) (hc : bs[i].toNat < 128) :
    takeNum bs = if (i = 0 ∨ bs[i].toNat ≠ 0) ∧ val (bs.take (i + 1)) < 18446744073709551616 then some (val (bs.take (i + 1)), bs.drop (i + 1)) else none := by
  have e : bs = bs.take i ++ bs[i] :: bs.drop (i + 1) := by
    conv => lhs; rw [← List.take_append_drop i bs]
    rw [List.drop_eq_getElem_cons hlt]
  have e2 : bs.take (i + 1) = bs.take i ++ [bs[i]] := List.take_succ_eq_append_getElem hlt
  have e3 : (bs.take i = []) ↔ i = 0 := by
    rw [List.take_eq_nil_iff]
    constructor
    · rintro (h | h)
      · exact h
      · subst h; simp at hlt
    · exact .inl
  conv => lhs; rw [e]
  rw [takeNum_at _ _ _ hp hc, e2]
  simp only [e3]

theorem val_take_lt (bs : List UInt8) (i : Nat) (hlt : i < bs.length) (h : i ≤ 8 ∨ i = 9 ∧ bs[i].toNat ≤ 1) : val (bs.take (i + 1)) < 18446744073709551616 := by
  rw [List.take_succ_eq_append_getElem hlt, val_snoc]
  have hv := val_lt (bs.take i)
  have hl : (bs.take i).length = i := by rw [List.length_take]; omega
  rw [hl] at hv ⊢
  have hm : bs[i].toNat % 128 < 128 := Nat.mod_lt _ (by omega)
  rcases h with h | ⟨h, hc⟩
  · have h1 : (128 : Nat) ^ i * (bs[i].toNat % 128) ≤ 128 ^ i * 127 := Nat.mul_le_mul_left _ (by omega)
    have h2 : (128 : Nat) ^ i ≤ 72057594037927936 := Nat.pow_le_pow_right (n := 128) (by omega) (show i ≤ 8 by omega)
    omega
  · have h2 : (128 : Nat) ^ i = 9223372036854775808 := by rw [h]
    have h1 : (128 : Nat) ^ i * (bs[i].toNat % 128) ≤ 128 ^ i * 1 := Nat.mul_le_mul_left _ (by omega)
    omega

theorem tkNum (t : Tk) (hl : ∀ bs, t = some bs → bs.length ≤ 100000000000000) : AFun Try.prog 40 [.ptr 0 0] [.box (tkC t)] (u64 (numT t).1) [.box (tkC (numT t).2)] := by
  refine AFun.of_walk hP Try.func40 rfl rfl rfl (by simp) rfl ?_
  rcases t with _ | bs
  · simp only [Try.f40, tkC, byts, bool, u64, numT, am, simprocAttr, tys]
    refine ALoopW.intro 62 1 (ι := Unit) (fun i => [(0, .ptr 0 0), (11, .d (.lit (.slice none 0 0))), (12, .d (.lit (.int .i64 0))), (13, .d (.lit (.int .i64 0)))]) (fun _ => [.box [.d (.lit (.slice none 0 0)), .d (.lit (.bool true))]]) (fun _ => 0) () [] [0] ?_ (fun _ => ?_)
    · exact ⟨rfl, rfl, by simp, (fun i hi => .inr ((by decide : ∀ i, i < 1 → ([0] : List Nat).getD i 0 = i) i hi)), ⟨.inr rfl, .inr rfl, .inr rfl, .inr rfl, trivial⟩, ⟨.inr ⟨by decide, rfl⟩, trivial⟩, rfl, by decide, rfl, (by first | rfl | simp [scRow, tkC_scs])⟩
    simp only [am, simprocAttr, tys]
    refine ACall.of (tkFail none) [0] [] rfl (by simp) (by simp) (by simp) (by repeat' (first | exact trivial | exact .inl rfl | exact .inr rfl | exact .inr ⟨rfl, rfl, rfl, by simp; done⟩ | exact .inr ⟨rfl, by simp; done⟩ | exact .inr ⟨rfl, rfl, by simp; done⟩ | apply And.intro)) (by repeat' (first | exact trivial | rfl | exact (tkC_ren.1 _ _).symm | (simp; done) | apply And.intro)) (by first | exact .inl rfl | (refine .inr ⟨trivial, ?_⟩; first | (intro row h; rcases List.mem_singleton.1 h with rfl; exact nvB _) | (intro row h; cases h; done) | (simp; done)) | (refine .inr ⟨by simp [nvP, nvP.nvPs, nvD, nilS, errno], ?_⟩; first | (intro row h; rcases List.mem_singleton.1 h with rfl; exact nvB _) | (intro row h; cases h; done) | (simp [nvRow, nvD, nvP]; done))) ?_
    simp only [tkC, bool, FinR, evRes, evRVs, evRV, am, simprocAttr, tys]
    exact ⟨_, [], [0], rfl, ⟨rfl, rfl, by simp, (fun i hi => .inr ((by decide : ∀ i, i < 1 → ([0] : List Nat).getD i 0 = i) i hi)), trivial, ⟨.inr ⟨by decide, rfl⟩, trivial⟩, rfl, by decide, rfl, (by first | rfl | simp [scRow, tkC_scs])⟩, rfl, rfl⟩
  · have hbl := hl bs rfl
    simp only [Try.f40, tkC, byts, bool, u64, am, simprocAttr, tys]
    refine ALoopW.intro 62 1 (ι := { i : Nat // i ≤ 9 ∧ i ≤ bs.length ∧ (bs.take i).all isC = true }) (fun i => [(0, .ptr 0 0), (3, .d (.lit (.int .u64 (val (bs.take i.1))))), (11, .d (.sl 1 (bs.map encB))), (12, .d (.lit (.int .i64 bs.length))), (13, .d (.lit (.int .i64 i.1)))]) (fun _ => [.box [.d (.sl 1 (bs.map encB)), .d (.lit (.bool false))]]) (fun i => bs.length - i.1) ⟨0, by omega, by omega, by simp⟩ [] [0] ?_ (fun ⟨i, hi9, hi, hall⟩ => ?_)
    · exact ⟨rfl, rfl, by simp, (fun i hi => .inr ((by decide : ∀ i, i < 1 → ([0] : List Nat).getD i 0 = i) i hi)), ⟨.inr rfl, .inr rfl, .inr rfl, .inr rfl, .inr rfl, trivial⟩, ⟨.inr ⟨by decide, rfl⟩, trivial⟩, rfl, by decide, rfl, (by first | rfl | simp [scRow, tkC_scs])⟩
    have hil : (bs.take i).length = i := by rw [List.length_take]; omega
    rcases Nat.lt_or_ge i bs.length with hlt | hge
    · have hb : bs[i]? = some bs[i] := List.getElem?_eq_getElem hlt
      have hlt2 : ((i : Int) < bs.length) := by omega
      have e1 : IntKind.i64.wrap ((i : Int) + 1) = ((i + 1 : Nat) : Int) := by rw [IntWalk.i64_in _ (by omega)]; simp
      have e7 : IntKind.i64.wrap (7 * (i : Int)) = 7 * (i : Int) := IntWalk.i64_in _ (by omega)
      have h10 : ((i : Int) == 10) = false := by rw [beq_eq_false_iff_ne]; omega
      have e70 : ((0 : Int) ≤ 7 * (i : Int)) := by omega
      by_cases h9 : i = 9 ∧ 1 < bs[i].toNat
      · obtain ⟨h9, hc⟩ := h9
        have hcI : ((1 : Int) < bs[i].toNat) := by omega
        have ht := takeNum_stop9 bs i h9 hall _ hb hc
        have h9b : ((i : Int) == 9) = true := by rw [beq_iff_eq]; omega
        simp only [hb, hlt2, encB, h10, h9b, hcI, Int.natCast_nonneg, am, simprocAttr, tys]
        refine ACall.of (tkFail (some bs)) [0] [] rfl (by simp) (by simp) (by simp) (by repeat' (first | exact trivial | exact .inl rfl | exact .inr rfl | exact .inr ⟨rfl, rfl, rfl, by simp; done⟩ | exact .inr ⟨rfl, by simp; done⟩ | exact .inr ⟨rfl, rfl, by simp; done⟩ | apply And.intro)) (by repeat' (first | exact trivial | rfl | exact (tkC_ren.1 _ _).symm | (simp; done) | apply And.intro)) (by first | exact .inl rfl | (refine .inr ⟨trivial, ?_⟩; first | (intro row h; rcases List.mem_singleton.1 h with rfl; exact nvB _) | (intro row h; cases h; done) | (simp; done)) | (refine .inr ⟨by simp [nvP, nvP.nvPs, nvD, nilS, errno], ?_⟩; first | (intro row h; rcases List.mem_singleton.1 h with rfl; exact nvB _) | (intro row h; cases h; done) | (simp [nvRow, nvD, nvP]; done))) ?_
        simp only [ht, numT, tkC, bool, FinR, evRes, evRVs, evRV, am, simprocAttr, tys]
        exact ⟨_, [], [0], rfl, ⟨rfl, rfl, by simp, (fun i hi => .inr ((by decide : ∀ i, i < 1 → ([0] : List Nat).getD i 0 = i) i hi)), trivial, ⟨.inr ⟨by decide, rfl⟩, trivial⟩, rfl, by decide, rfl, (by first | rfl | simp [scRow, tkC_scs])⟩, rfl, rfl⟩
      · have hor : i ≤ 8 ∨ i = 9 ∧ bs[i].toNat ≤ 1 := by omega
        have hacc := acc_or (bs.take i) bs[i] (by rw [hil]; exact hor)
        rw [hil, ← List.take_succ_eq_append_getElem hlt] at hacc
        have hvl := val_take_lt bs i hlt hor
        have hlen2 : (bs.take (i + 1)).length = i + 1 := by rw [List.length_take]; omega
        -- what is asked at the head
        have hcond : (if ((i : Int) == 9) = true then decide ((1 : Int) < (bs[i].toNat : Int)) else false) = false := by
          split
          · rename_i h
            have : i = 9 := by have := eq_of_beq h; omega
            rw [decide_eq_false_iff_not]; omega
          · rfl
        by_cases hc : isC bs[i] = true
        · have hc' : 128 ≤ bs[i].toNat := of_decide_eq_true hc
          by_cases hi9' : (i : Int) = 9
          · exfalso; omega
          · have h9b : ((i : Int) == 9) = false := by rw [beq_eq_false_iff_ne]; exact hi9'
            simp only [hb, hlt2, encB, h10, h9b, e7, e70, hacc, and128, hc, e1, Int.natCast_nonneg, am, simprocAttr, tys]
            refine ⟨⟨i + 1, by omega, by omega, ?_⟩, [], [0], ⟨rfl, rfl, by simp, (fun i hi => .inr ((by decide : ∀ i, i < 1 → ([0] : List Nat).getD i 0 = i) i hi)), ⟨.inr rfl, .inr rfl, .inr rfl, .inr rfl, .inr rfl, trivial⟩, ⟨.inr ⟨by decide, rfl⟩, trivial⟩, rfl, by decide, rfl, (by first | rfl | simp [scRow, tkC_scs])⟩, by show bs.length - (i + 1) < bs.length - i; omega⟩
            rw [List.take_succ_eq_append_getElem hlt]
            simp only [List.all_append, hall, List.all_cons, List.all_nil, hc, Bool.and_self]
        · have hc' : bs[i].toNat < 128 := by
            have : ¬ 128 ≤ bs[i].toNat := fun h => hc (decide_eq_true h)
            omega
          have hcf : isC bs[i] = false := by simpa using hc
          have hcut := takeNum_cut bs i hlt hall hc'
          have hbl := val_snoc_bl (bs.take i) bs[i] hc' (by rw [hil]; omega)
          rw [hil, ← List.take_succ_eq_append_getElem hlt] at hbl
          have hb64 := (bl_le (val (bs.take (i + 1))) 64).2 (by omega)
          have e2 : IntKind.i64.wrap ((bl (val (bs.take (i + 1))) : Int) + 7) = ((bl (val (bs.take (i + 1))) + 7 : Nat) : Int) := by rw [IntWalk.i64_in _ (by omega)]; simp
          have e3 : IntKind.i64.wrap (((bl (val (bs.take (i + 1))) + 7 : Nat) : Int) - 1) = ((bl (val (bs.take (i + 1))) + 6 : Nat) : Int) := by rw [IntWalk.i64_in _ (by omega)]; omega
          have e4 : IntKind.i64.wrap ((((bl (val (bs.take (i + 1))) + 6 : Nat) : Int)).tdiv 7) = (((bl (val (bs.take (i + 1))) + 6) / 7 : Nat) : Int) := by
            have : (((bl (val (bs.take (i + 1))) + 6 : Nat) : Int)).tdiv 7 = (((bl (val (bs.take (i + 1))) + 6) / 7 : Nat) : Int) := rfl
            rw [this, IntWalk.i64_in _ (by omega)]
          have e5 : (((i + 1 : Nat) : Int) != (if (1 : Int) < (((bl (val (bs.take (i + 1))) + 6) / 7 : Nat) : Int) then (((bl (val (bs.take (i + 1))) + 6) / 7 : Nat) : Int) else 1)) = !(decide (i = 0 ∨ bs[i].toNat ≠ 0)) := by
            have e3 : (bs.take i = []) ↔ i = 0 := by
              rw [List.take_eq_nil_iff]
              constructor
              · rintro (h | h)
                · exact h
                · subst h; simp at hlt
              · exact .inl
            rw [e3] at hbl
            rw [← decide_eq_decide.2 hbl, bne, Bool.not_inj_iff, Bool.eq_iff_iff, beq_iff_eq, decide_eq_true_eq]
            split <;> omega
          rcases hok : decide (i = 0 ∨ bs[i].toNat ≠ 0) with _ | _
          · rw [hok] at e5
            rw [decide_eq_false_iff_not] at hok
            rw [if_neg (fun h => hok h.1)] at hcut
            rcases h9b : ((i : Int) == 9) with _ | _
            · simp only [hb, hlt2, encB, h10, h9b, e7, e70, hacc, and128, hcf, e1, Int.natCast_nonneg, am, simprocAttr, tys]
              refine ACall.of (len64 (val (bs.take (i + 1))) hvl) [] [] rfl (by simp) (by simp) (by simp) (by repeat' (first | exact trivial | exact .inl rfl | exact .inr rfl | exact .inr ⟨rfl, rfl, rfl, by simp; done⟩ | exact .inr ⟨rfl, by simp; done⟩ | exact .inr ⟨rfl, rfl, by simp; done⟩ | apply And.intro)) (by repeat' (first | exact trivial | rfl | exact (tkC_ren.1 _ _).symm | (simp; done) | apply And.intro)) (by first | exact .inl rfl | (refine .inr ⟨trivial, ?_⟩; first | (intro row h; rcases List.mem_singleton.1 h with rfl; exact nvB _) | (intro row h; cases h; done) | (simp; done)) | (refine .inr ⟨by simp [nvP, nvP.nvPs, nvD, nilS, errno], ?_⟩; first | (intro row h; rcases List.mem_singleton.1 h with rfl; exact nvB _) | (intro row h; cases h; done) | (simp [nvRow, nvD, nvP]; done))) ?_
              simp only [int, e2, e3, e4, e5, am, simprocAttr, tys]
              refine ACall.of (tkFail (some bs)) [0] [] rfl (by simp) (by simp) (by simp) (by repeat' (first | exact trivial | exact .inl rfl | exact .inr rfl | exact .inr ⟨rfl, rfl, rfl, by simp; done⟩ | exact .inr ⟨rfl, by simp; done⟩ | exact .inr ⟨rfl, rfl, by simp; done⟩ | apply And.intro)) (by repeat' (first | exact trivial | rfl | exact (tkC_ren.1 _ _).symm | (simp; done) | apply And.intro)) (by first | exact .inl rfl | (refine .inr ⟨trivial, ?_⟩; first | (intro row h; rcases List.mem_singleton.1 h with rfl; exact nvB _) | (intro row h; cases h; done) | (simp; done)) | (refine .inr ⟨by simp [nvP, nvP.nvPs, nvD, nilS, errno], ?_⟩; first | (intro row h; rcases List.mem_singleton.1 h with rfl; exact nvB _) | (intro row h; cases h; done) | (simp [nvRow, nvD, nvP]; done))) ?_
              simp only [hcut, numT, tkC, bool, FinR, evRes, evRVs, evRV, am, simprocAttr, tys]
              exact ⟨_, [], [0], rfl, ⟨rfl, rfl, by simp, (fun i hi => .inr ((by decide : ∀ i, i < 1 → ([0] : List Nat).getD i 0 = i) i hi)), trivial, ⟨.inr ⟨by decide, rfl⟩, trivial⟩, rfl, by decide, rfl, (by first | rfl | simp [scRow, tkC_scs])⟩, rfl, rfl⟩
            · have h1 : ¬ ((1 : Int) < (bs[i].toNat : Int)) := by
                have : (i : Int) = 9 := eq_of_beq h9b
                omega
              simp only [hb, hlt2, encB, h10, h9b, h1, e7, e70, hacc, and128, hcf, e1, Int.natCast_nonneg, am, simprocAttr, tys]
              refine ACall.of (len64 (val (bs.take (i + 1))) hvl) [] [] rfl (by simp) (by simp) (by simp) (by repeat' (first | exact trivial | exact .inl rfl | exact .inr rfl | exact .inr ⟨rfl, rfl, rfl, by simp; done⟩ | exact .inr ⟨rfl, by simp; done⟩ | exact .inr ⟨rfl, rfl, by simp; done⟩ | apply And.intro)) (by repeat' (first | exact trivial | rfl | exact (tkC_ren.1 _ _).symm | (simp; done) | apply And.intro)) (by first | exact .inl rfl | (refine .inr ⟨trivial, ?_⟩; first | (intro row h; rcases List.mem_singleton.1 h with rfl; exact nvB _) | (intro row h; cases h; done) | (simp; done)) | (refine .inr ⟨by simp [nvP, nvP.nvPs, nvD, nilS, errno], ?_⟩; first | (intro row h; rcases List.mem_singleton.1 h with rfl; exact nvB _) | (intro row h; cases h; done) | (simp [nvRow, nvD, nvP]; done))) ?_
              simp only [int, e2, e3, e4, e5, am, simprocAttr, tys]
              refine ACall.of (tkFail (some bs)) [0] [] rfl (by simp) (by simp) (by simp) (by repeat' (first | exact trivial | exact .inl rfl | exact .inr rfl | exact .inr ⟨rfl, rfl, rfl, by simp; done⟩ | exact .inr ⟨rfl, by simp; done⟩ | exact .inr ⟨rfl, rfl, by simp; done⟩ | apply And.intro)) (by repeat' (first | exact trivial | rfl | exact (tkC_ren.1 _ _).symm | (simp; done) | apply And.intro)) (by first | exact .inl rfl | (refine .inr ⟨trivial, ?_⟩; first | (intro row h; rcases List.mem_singleton.1 h with rfl; exact nvB _) | (intro row h; cases h; done) | (simp; done)) | (refine .inr ⟨by simp [nvP, nvP.nvPs, nvD, nilS, errno], ?_⟩; first | (intro row h; rcases List.mem_singleton.1 h with rfl; exact nvB _) | (intro row h; cases h; done) | (simp [nvRow, nvD, nvP]; done))) ?_
              simp only [hcut, numT, tkC, bool, FinR, evRes, evRVs, evRV, am, simprocAttr, tys]
              exact ⟨_, [], [0], rfl, ⟨rfl, rfl, by simp, (fun i hi => .inr ((by decide : ∀ i, i < 1 → ([0] : List Nat).getD i 0 = i) i hi)), trivial, ⟨.inr ⟨by decide, rfl⟩, trivial⟩, rfl, by decide, rfl, (by first | rfl | simp [scRow, tkC_scs])⟩, rfl, rfl⟩
          · rw [hok] at e5
            rw [decide_eq_true_eq] at hok
            rw [if_pos ⟨hok, hvl⟩] at hcut
            have hle : ((i + 1 : Nat) : Int) ≤ bs.length := by omega
            rcases h9b : ((i : Int) == 9) with _ | _
            · simp only [hb, hlt2, encB, h10, h9b, e7, e70, hacc, and128, hcf, e1, Int.natCast_nonneg, am, simprocAttr, tys]
              refine ACall.of (len64 (val (bs.take (i + 1))) hvl) [] [] rfl (by simp) (by simp) (by simp) (by repeat' (first | exact trivial | exact .inl rfl | exact .inr rfl | exact .inr ⟨rfl, rfl, rfl, by simp; done⟩ | exact .inr ⟨rfl, by simp; done⟩ | exact .inr ⟨rfl, rfl, by simp; done⟩ | apply And.intro)) (by repeat' (first | exact trivial | rfl | exact (tkC_ren.1 _ _).symm | (simp; done) | apply And.intro)) (by first | exact .inl rfl | (refine .inr ⟨trivial, ?_⟩; first | (intro row h; rcases List.mem_singleton.1 h with rfl; exact nvB _) | (intro row h; cases h; done) | (simp; done)) | (refine .inr ⟨by simp [nvP, nvP.nvPs, nvD, nilS, errno], ?_⟩; first | (intro row h; rcases List.mem_singleton.1 h with rfl; exact nvB _) | (intro row h; cases h; done) | (simp [nvRow, nvD, nvP]; done))) ?_
              simp only [int, e2, e3, e4, e5, e1, hcut, numT, tkC, byts, bool, ← List.map_take, ← List.map_drop, List.take_length, FinR, evRes, evRVs, evRV, am, simprocAttr, tys]
              exact ⟨by omega, ⟨_, [], [0], rfl, ⟨rfl, rfl, by simp, (fun i hi => .inr ((by decide : ∀ i, i < 1 → ([0] : List Nat).getD i 0 = i) i hi)), trivial, ⟨.inr ⟨by decide, rfl⟩, trivial⟩, rfl, by decide, rfl, (by first | rfl | simp [scRow, tkC_scs])⟩, rfl, rfl⟩⟩
            · have h1 : ¬ ((1 : Int) < (bs[i].toNat : Int)) := by
                have : (i : Int) = 9 := eq_of_beq h9b
                omega
              simp only [hb, hlt2, encB, h10, h9b, h1, e7, e70, hacc, and128, hcf, e1, Int.natCast_nonneg, am, simprocAttr, tys]
              refine ACall.of (len64 (val (bs.take (i + 1))) hvl) [] [] rfl (by simp) (by simp) (by simp) (by repeat' (first | exact trivial | exact .inl rfl | exact .inr rfl | exact .inr ⟨rfl, rfl, rfl, by simp; done⟩ | exact .inr ⟨rfl, by simp; done⟩ | exact .inr ⟨rfl, rfl, by simp; done⟩ | apply And.intro)) (by repeat' (first | exact trivial | rfl | exact (tkC_ren.1 _ _).symm | (simp; done) | apply And.intro)) (by first | exact .inl rfl | (refine .inr ⟨trivial, ?_⟩; first | (intro row h; rcases List.mem_singleton.1 h with rfl; exact nvB _) | (intro row h; cases h; done) | (simp; done)) | (refine .inr ⟨by simp [nvP, nvP.nvPs, nvD, nilS, errno], ?_⟩; first | (intro row h; rcases List.mem_singleton.1 h with rfl; exact nvB _) | (intro row h; cases h; done) | (simp [nvRow, nvD, nvP]; done))) ?_
              simp only [int, e2, e3, e4, e5, e1, hcut, numT, tkC, byts, bool, ← List.map_take, ← List.map_drop, List.take_length, FinR, evRes, evRVs, evRV, am, simprocAttr, tys]
              exact ⟨by omega, ⟨_, [], [0], rfl, ⟨rfl, rfl, by simp, (fun i hi => .inr ((by decide : ∀ i, i < 1 → ([0] : List Nat).getD i 0 = i) i hi)), trivial, ⟨.inr ⟨by decide, rfl⟩, trivial⟩, rfl, by decide, rfl, (by first | rfl | simp [scRow, tkC_scs])⟩, rfl, rfl⟩⟩
    · have hlt2 : ¬ ((i : Int) < bs.length) := by omega
      have hi' : i = bs.length := by omega
      have ht : takeNum bs = none := takeNum_all bs (by rw [hi', List.take_length] at hall; exact hall)
      simp only [hlt2, am, simprocAttr, tys]
      refine ACall.of (tkFail (some bs)) [0] [] rfl (by simp) (by simp) (by simp) (by repeat' (first | exact trivial | exact .inl rfl | exact .inr rfl | exact .inr ⟨rfl, rfl, rfl, by simp; done⟩ | exact .inr ⟨rfl, by simp; done⟩ | exact .inr ⟨rfl, rfl, by simp; done⟩ | apply And.intro)) (by repeat' (first | exact trivial | rfl | exact (tkC_ren.1 _ _).symm | (simp; done) | apply And.intro)) (by first | exact .inl rfl | (refine .inr ⟨trivial, ?_⟩; first | (intro row h; rcases List.mem_singleton.1 h with rfl; exact nvB _) | (intro row h; cases h; done) | (simp; done)) | (refine .inr ⟨by simp [nvP, nvP.nvPs, nvD, nilS, errno], ?_⟩; first | (intro row h; rcases List.mem_singleton.1 h with rfl; exact nvB _) | (intro row h; cases h; done) | (simp [nvRow, nvD, nvP]; done))) ?_
      simp only [ht, numT, tkC, bool, FinR, evRes, evRVs, evRV, am, simprocAttr, tys]
      exact ⟨_, [], [0], rfl, ⟨rfl, rfl, by simp, (fun i hi => .inr ((by decide : ∀ i, i < 1 → ([0] : List Nat).getD i 0 = i) i hi)), trivial, ⟨.inr ⟨by decide, rfl⟩, trivial⟩, rfl, by decide, rfl, (by first | rfl | simp [scRow, tkC_scs])⟩, rfl, rfl⟩
end Go.Proofs.Ytflpphgccjlkjaa

set_option linter.unusedSimpArgs false
set_option linter.unusedVariables false
namespace Go.Proofs.Ytflpphgccjlkjaa
open Go Go.AM

theorem takeNum_eq (bs : List UInt8) (i n : Nat) (hn : n < 18446744073709551616) (h : leb n = bs.take i) : takeNum bs = some (n, bs.drop i) := by
  conv => lhs; rw [← List.take_append_drop i bs]
  rw [← h, takeNum_leb n _ hn]

theorem takeNum_ne (bs : List UInt8) (i : Nat) (hlt : i < bs.length) (hp : (bs.take i).all isC = true) (hc : bs[i].toNat < 128) (h : leb (val (bs.take (i + 1)) % 18446744073709551616) ≠ bs.take (i + 1)) : takeNum bs = none := by
  rcases hk : takeNum bs with _ | ⟨m, r⟩
  · rfl
  · exfalso
    obtain ⟨h1, h2⟩ := takeNum_some hk
    have e : bs = bs.take i ++ bs[i] :: bs.drop (i + 1) := by
      conv => lhs; rw [← List.take_append_drop i bs]
      rw [List.drop_eq_getElem_cons hlt]
    have e2 : bs.take (i + 1) = bs.take i ++ [bs[i]] := List.take_succ_eq_append_getElem hlt
    obtain ⟨p, c, g1, g2, g3, g4⟩ := leb_shape m
    have s1 := isC_span (bs.take i) bs[i] (bs.drop (i + 1)) hp hc
    rw [← e] at s1
    have s2 := isC_span p c r g2 g3
    have e3 : p ++ c :: r = bs := by rw [h2, g1]; simp
    rw [e3] at s2
    have f1 : bs.take i = p := s1.1.symm.trans s2.1
    have f2 : bs[i] = c := by
      have := s1.2.symm.trans s2.2
      simp only [List.cons.injEq] at this
      exact this.1
    apply h
    have e4 : bs.take (i + 1) = leb m := by rw [e2, f1, f2, g1]
    rw [e4, val_leb, Nat.mod_eq_of_lt h1]

theorem refFail (t : Tk) : AFun Try.prog 67 [.ptr 0 0] [.box (tkC t)] (.tup []) [.box (tkC none)] := by
  refine AFun.of_walk hP Try.func67 rfl rfl rfl (by simp) rfl ?_
  rcases t with _ | bs
  · simp only [Try.f67, tkC, byts, bool, FinR, evRes, evRVs, evRV, am, simprocAttr, tys]
    exact ⟨_, [], [0], rfl, ⟨rfl, rfl, by simp, (fun i hi => .inr ((by decide : ∀ i, i < 1 → ([0] : List Nat).getD i 0 = i) i hi)), trivial, ⟨.inr ⟨by decide, rfl⟩, trivial⟩, rfl, by decide, rfl, (by first | rfl | simp [scRow, tkC_scs])⟩, rfl, rfl⟩
  · simp only [Try.f67, tkC, byts, bool, FinR, evRes, evRVs, evRV, am, simprocAttr, tys]
    exact ⟨_, [], [0], rfl, ⟨rfl, rfl, by simp, (fun i hi => .inr ((by decide : ∀ i, i < 1 → ([0] : List Nat).getD i 0 = i) i hi)), trivial, ⟨.inr ⟨by decide, rfl⟩, trivial⟩, rfl, by decide, rfl, (by first | rfl | simp [scRow, tkC_scs])⟩, rfl, rfl⟩

theorem refNum (t : Tk) (hl : ∀ bs, t = some bs → bs.length ≤ 100000000000000) : AFun Try.prog 45 [.ptr 0 0] [.box (tkC t)] (u64 (numT t).1) [.box (tkC (numT t).2)] := by
  refine AFun.of_walk hP Try.func45 rfl rfl rfl (by simp) rfl ?_
  rcases t with _ | bs
  · simp only [Try.f45, tkC, byts, bool, u64, numT, am, simprocAttr, tys]
    refine ALoopW.intro 67 1 (ι := Unit) (fun i => [(0, .ptr 0 0), (5, .d (.lit (.int .i64 0)))]) (fun _ => [.box [.d (.lit (.slice none 0 0)), .d (.lit (.bool true))]]) (fun _ => 0) () [] [0] ?_ (fun _ => ?_)
    · exact ⟨rfl, rfl, by simp, (fun i hi => .inr ((by decide : ∀ i, i < 1 → ([0] : List Nat).getD i 0 = i) i hi)), ⟨.inr rfl, .inr rfl, trivial⟩, ⟨.inr ⟨by decide, rfl⟩, trivial⟩, rfl, by decide, rfl, (by first | rfl | simp [scRow, tkC_scs])⟩
    simp only [am, simprocAttr, tys]
    refine ACall.of (refFail none) [0] [] rfl (by simp) (by simp) (by simp) (by repeat' (first | exact trivial | exact .inl rfl | exact .inr rfl | exact .inr ⟨rfl, rfl, rfl, by simp; done⟩ | exact .inr ⟨rfl, by simp; done⟩ | exact .inr ⟨rfl, rfl, by simp; done⟩ | apply And.intro)) (by repeat' (first | exact trivial | rfl | exact (tkC_ren.1 _ _).symm | (simp; done) | apply And.intro)) (by first | exact .inl rfl | (refine .inr ⟨trivial, ?_⟩; first | (intro row h; rcases List.mem_singleton.1 h with rfl; exact nvB _) | (intro row h; cases h; done) | (simp; done)) | (refine .inr ⟨by simp [nvP, nvP.nvPs, nvD, nilS, errno], ?_⟩; first | (intro row h; rcases List.mem_singleton.1 h with rfl; exact nvB _) | (intro row h; cases h; done) | (simp [nvRow, nvD, nvP]; done))) ?_
    simp only [tkC, bool, FinR, evRes, evRVs, evRV, am, simprocAttr, tys]
    exact ⟨_, [], [0], rfl, ⟨rfl, rfl, by simp, (fun i hi => .inr ((by decide : ∀ i, i < 1 → ([0] : List Nat).getD i 0 = i) i hi)), trivial, ⟨.inr ⟨by decide, rfl⟩, trivial⟩, rfl, by decide, rfl, (by first | rfl | simp [scRow, tkC_scs])⟩, rfl, rfl⟩
  · have hbl := hl bs rfl
    simp only [Try.f45, tkC, byts, bool, u64, am, simprocAttr, tys]
    refine ALoopW.intro 67 1 (ι := { i : Nat // i ≤ 10 ∧ i ≤ bs.length ∧ (bs.take i).all isC = true }) (fun i => [(0, .ptr 0 0), (3, .d (.lit (.int .u64 ((val (bs.take i.1) % 18446744073709551616 : Nat) : Int)))), (4, .d (.lit (.int .u64 ((128 ^ i.1 % 18446744073709551616 : Nat) : Int)))), (5, .d (.lit (.int .i64 i.1)))]) (fun _ => [.box [.d (.sl 1 (bs.map encB)), .d (.lit (.bool false))]]) (fun i => bs.length - i.1) ⟨0, by omega, by omega, by simp⟩ [] [0] ?_ (fun ⟨i, hi9, hi, hall⟩ => ?_)
    · exact ⟨rfl, rfl, by simp, (fun i hi => .inr ((by decide : ∀ i, i < 1 → ([0] : List Nat).getD i 0 = i) i hi)), ⟨.inr rfl, .inr rfl, .inr rfl, .inr rfl, trivial⟩, ⟨.inr ⟨by decide, rfl⟩, trivial⟩, rfl, by decide, rfl, (by first | rfl | simp [scRow, tkC_scs])⟩
    have hil : (bs.take i).length = i := by rw [List.length_take]; omega
    rcases Nat.lt_or_ge i bs.length with hlt | hge
    · have hb : bs[i]? = some bs[i] := List.getElem?_eq_getElem hlt
      have hlt2 : ((i : Int) < bs.length) := by omega
      by_cases h10 : i < 10
      · have h10' : ((i : Int) < 10) := by omega
        have e1 : IntKind.i64.wrap ((i : Int) + 1) = ((i + 1 : Nat) : Int) := by rw [IntWalk.i64_in _ (by omega)]; simp
        have hm : bs[i].toNat % 128 < 128 := Nat.mod_lt _ (by omega)
        have t1 : ((bs[i].toNat : Nat) : Int).tmod 128 = ((bs[i].toNat % 128 : Nat) : Int) := rfl
        have t2 : IntKind.u64.wrap ((bs[i].toNat % 128 : Nat) : Int) = ((bs[i].toNat % 128 : Nat) : Int) := IntWalk.u64_in _ (by omega)
        have t3 : IntKind.u64.wrap (((val (bs.take i) % 18446744073709551616 : Nat) : Int) + IntKind.u64.wrap (((bs[i].toNat % 128 : Nat) : Int) * ((128 ^ i % 18446744073709551616 : Nat) : Int))) = ((val (bs.take (i + 1)) % 18446744073709551616 : Nat) : Int) := by
          rw [List.take_succ_eq_append_getElem hlt, val_snoc, hil, Nat.mul_comm (128 ^ i)]
          rw [IntKind.wrap_u64, IntKind.wrap_u64, ← Int.natCast_mul]
          have e5 : bs[i].toNat % 128 * 128 ^ i % 18446744073709551616 = bs[i].toNat % 128 * (128 ^ i % 18446744073709551616) % 18446744073709551616 := by rw [Nat.mul_mod, Nat.mod_eq_of_lt (show bs[i].toNat % 128 < 18446744073709551616 by omega)]
          generalize bs[i].toNat % 128 * 128 ^ i = A at *
          generalize bs[i].toNat % 128 * (128 ^ i % 18446744073709551616) = C at *
          omega
        have t4 : IntKind.u64.wrap (((128 ^ i % 18446744073709551616 : Nat) : Int) * 128) = ((128 ^ (i + 1) % 18446744073709551616 : Nat) : Int) := by
          rw [IntKind.wrap_u64, Nat.pow_succ]
          omega
        by_cases hc : bs[i].toNat < 128
        · have hcI : ((bs[i].toNat : Int) < 128) := by omega
          have hle : ((i + 1 : Nat) : Int) ≤ bs.length := by omega
          have hml : val (bs.take (i + 1)) % 18446744073709551616 < 18446744073709551616 := Nat.mod_lt _ (by omega)
          simp only [hb, hlt2, encB, h10', hcI, t1, t2, t3, t4, Int.natCast_nonneg, am, simprocAttr, tys]
          refine ACallD.of (refPut [] (val (bs.take (i + 1)) % 18446744073709551616) (by simp) hml) (by kernel_rfl) [] [] rfl (by simp) (by simp) (by simp) (by simp) (by repeat' (first | exact trivial | exact .inl rfl | exact .inr rfl | exact .inr ⟨rfl, rfl, rfl, by simp; done⟩ | exact .inr ⟨rfl, by simp; done⟩ | exact .inr ⟨rfl, rfl, by simp; done⟩ | apply And.intro)) (by repeat' (first | exact trivial | rfl | exact (tkC_ren.1 _ _).symm | (simp; done) | apply And.intro)) (by first | exact .inl rfl | (refine .inr ⟨trivial, ?_⟩; first | (intro row h; rcases List.mem_singleton.1 h with rfl; exact nvB _) | (intro row h; cases h; done) | (simp; done)) | (refine .inr ⟨by simp [nvP, nvP.nvPs, nvD, nilS, errno], ?_⟩; first | (intro row h; rcases List.mem_singleton.1 h with rfl; exact nvB _) | (intro row h; cases h; done) | (simp [nvRow, nvD, nvP]; done))) rfl rfl rfl rfl ?_
          simp only [e1, hle, ← List.map_take, bl_toList, strOf_encB, Int.natCast_nonneg, Int.toNat_natCast, List.drop_zero, am, simprocAttr, tys]
          refine ⟨by kernel_rfl, ?_⟩
          rcases heq : (leb (val (bs.take (i + 1)) % 18446744073709551616) == bs.take (i + 1)) with _ | _
          · have ht := takeNum_ne bs i hlt hall hc (by rw [beq_eq_false_iff_ne] at heq; exact heq)
            simp only [am, simprocAttr, tys]
            refine ACall.of (refFail (some bs)) [0] [] rfl (by simp) (by simp) (by simp) (by repeat' (first | exact trivial | exact .inl rfl | exact .inr rfl | exact .inr ⟨rfl, rfl, rfl, by simp; done⟩ | exact .inr ⟨rfl, by simp; done⟩ | exact .inr ⟨rfl, rfl, by simp; done⟩ | apply And.intro)) (by repeat' (first | exact trivial | rfl | exact (tkC_ren.1 _ _).symm | (simp; done) | apply And.intro)) (by first | exact .inl rfl | (refine .inr ⟨trivial, ?_⟩; first | (intro row h; rcases List.mem_singleton.1 h with rfl; exact nvB _) | (intro row h; cases h; done) | (simp; done)) | (refine .inr ⟨by simp [nvP, nvP.nvPs, nvD, nilS, errno], ?_⟩; first | (intro row h; rcases List.mem_singleton.1 h with rfl; exact nvB _) | (intro row h; cases h; done) | (simp [nvRow, nvD, nvP]; done))) ?_
            simp only [ht, numT, tkC, bool, FinR, evRes, evRVs, evRV, am, simprocAttr, tys]
            exact ⟨_, [], [0], rfl, ⟨rfl, rfl, by simp, (fun i hi => .inr ((by decide : ∀ i, i < 1 → ([0] : List Nat).getD i 0 = i) i hi)), trivial, ⟨.inr ⟨by decide, rfl⟩, trivial⟩, rfl, by decide, rfl, (by first | rfl | simp [scRow, tkC_scs])⟩, rfl, rfl⟩
          · have ht := takeNum_eq bs (i + 1) _ hml (eq_of_beq heq)
            simp only [e1, ht, numT, tkC, byts, bool, ← List.map_take, ← List.map_drop, List.take_length, FinR, evRes, evRVs, evRV, am, simprocAttr, tys]
            exact ⟨by omega, ⟨_, [], [0], rfl, ⟨rfl, rfl, by simp, (fun i hi => .inr ((by decide : ∀ i, i < 1 → ([0] : List Nat).getD i 0 = i) i hi)), trivial, ⟨.inr ⟨by decide, rfl⟩, trivial⟩, rfl, by decide, rfl, (by first | rfl | simp [scRow, tkC_scs])⟩, rfl, rfl⟩⟩
        · have hcI : ¬ ((bs[i].toNat : Int) < 128) := by omega
          simp only [hb, hlt2, encB, h10', hcI, t1, t2, t3, t4, e1, Int.natCast_nonneg, am, simprocAttr, tys]
          refine ⟨⟨i + 1, by omega, by omega, ?_⟩, [], [0], ⟨rfl, rfl, by simp, (fun i hi => .inr ((by decide : ∀ i, i < 1 → ([0] : List Nat).getD i 0 = i) i hi)), ⟨.inr rfl, .inr rfl, .inr rfl, .inr rfl, trivial⟩, ⟨.inr ⟨by decide, rfl⟩, trivial⟩, rfl, by decide, rfl, (by first | rfl | simp [scRow, tkC_scs])⟩, by show bs.length - (i + 1) < bs.length - i; omega⟩
          rw [List.take_succ_eq_append_getElem hlt]
          simp only [List.all_append, hall, List.all_cons, List.all_nil, isC, Bool.and_true, Bool.true_and, decide_eq_true_eq]; omega
      · have h10' : ¬ ((i : Int) < 10) := by omega
        have ht : takeNum bs = none := by
          have := takeNum_long (bs.take i) (bs.drop i) hall (by omega)
          rwa [List.take_append_drop] at this
        simp only [hlt2, h10', am, simprocAttr, tys]
        refine ACall.of (refFail (some bs)) [0] [] rfl (by simp) (by simp) (by simp) (by repeat' (first | exact trivial | exact .inl rfl | exact .inr rfl | exact .inr ⟨rfl, rfl, rfl, by simp; done⟩ | exact .inr ⟨rfl, by simp; done⟩ | exact .inr ⟨rfl, rfl, by simp; done⟩ | apply And.intro)) (by repeat' (first | exact trivial | rfl | exact (tkC_ren.1 _ _).symm | (simp; done) | apply And.intro)) (by first | exact .inl rfl | (refine .inr ⟨trivial, ?_⟩; first | (intro row h; rcases List.mem_singleton.1 h with rfl; exact nvB _) | (intro row h; cases h; done) | (simp; done)) | (refine .inr ⟨by simp [nvP, nvP.nvPs, nvD, nilS, errno], ?_⟩; first | (intro row h; rcases List.mem_singleton.1 h with rfl; exact nvB _) | (intro row h; cases h; done) | (simp [nvRow, nvD, nvP]; done))) ?_
        simp only [ht, numT, tkC, bool, FinR, evRes, evRVs, evRV, am, simprocAttr, tys]
        exact ⟨_, [], [0], rfl, ⟨rfl, rfl, by simp, (fun i hi => .inr ((by decide : ∀ i, i < 1 → ([0] : List Nat).getD i 0 = i) i hi)), trivial, ⟨.inr ⟨by decide, rfl⟩, trivial⟩, rfl, by decide, rfl, (by first | rfl | simp [scRow, tkC_scs])⟩, rfl, rfl⟩
    · have hlt2 : ¬ ((i : Int) < bs.length) := by omega
      have hi' : i = bs.length := by omega
      have ht : takeNum bs = none := takeNum_all bs (by rw [hi', List.take_length] at hall; exact hall)
      simp only [hlt2, am, simprocAttr, tys]
      refine ACall.of (refFail (some bs)) [0] [] rfl (by simp) (by simp) (by simp) (by repeat' (first | exact trivial | exact .inl rfl | exact .inr rfl | exact .inr ⟨rfl, rfl, rfl, by simp; done⟩ | exact .inr ⟨rfl, by simp; done⟩ | exact .inr ⟨rfl, rfl, by simp; done⟩ | apply And.intro)) (by repeat' (first | exact trivial | rfl | exact (tkC_ren.1 _ _).symm | (simp; done) | apply And.intro)) (by first | exact .inl rfl | (refine .inr ⟨trivial, ?_⟩; first | (intro row h; rcases List.mem_singleton.1 h with rfl; exact nvB _) | (intro row h; cases h; done) | (simp; done)) | (refine .inr ⟨by simp [nvP, nvP.nvPs, nvD, nilS, errno], ?_⟩; first | (intro row h; rcases List.mem_singleton.1 h with rfl; exact nvB _) | (intro row h; cases h; done) | (simp [nvRow, nvD, nvP]; done))) ?_
      simp only [ht, numT, tkC, bool, FinR, evRes, evRVs, evRV, am, simprocAttr, tys]
      exact ⟨_, [], [0], rfl, ⟨rfl, rfl, by simp, (fun i hi => .inr ((by decide : ∀ i, i < 1 → ([0] : List Nat).getD i 0 = i) i hi)), trivial, ⟨.inr ⟨by decide, rfl⟩, trivial⟩, rfl, by decide, rfl, (by first | rfl | simp [scRow, tkC_scs])⟩, rfl, rfl⟩
end Go.Proofs.Ytflpphgccjlkjaa

set_option linter.unusedSimpArgs false
set_option linter.unusedVariables false
namespace Go.Proofs.Ytflpphgccjlkjaa
open Go Go.AM

theorem tkText (t : Tk) (hl : ∀ bs, t = some bs → bs.length ≤ 100000000000000) : AFun Try.prog 98 [.ptr 0 0] [.box (tkC t)] (str (textT t).1) [.box (tkC (textT t).2)] := by
  refine AFun.of_walk hP Try.func98 rfl rfl rfl (by simp) rfl ?_
  obtain ⟨hn, hr⟩ := numT_lt t hl
  have h0 := numT_none t
  simp only [Try.f98, am, simprocAttr, tys]
  refine ACall.of (tkNum t hl) [0] [] rfl (by simp) (by simp) (by simp) (by repeat' (first | exact trivial | exact .inl rfl | exact .inr rfl | exact .inr ⟨rfl, rfl, rfl, by simp; done⟩ | exact .inr ⟨rfl, by simp; done⟩ | exact .inr ⟨rfl, rfl, by simp; done⟩ | apply And.intro)) (by repeat' (first | exact trivial | rfl | exact (tkC_ren.1 _ _).symm | (simp; done) | apply And.intro)) (by first | exact .inl rfl | (refine .inr ⟨trivial, ?_⟩; first | (intro row h; rcases List.mem_singleton.1 h with rfl; exact nvB _) | (intro row h; cases h; done) | (simp; done)) | (refine .inr ⟨by simp [nvP, nvP.nvPs, nvD, nilS, errno], ?_⟩; first | (intro row h; rcases List.mem_singleton.1 h with rfl; exact nvB _) | (intro row h; cases h; done) | (simp [nvRow, nvD, nvP]; done))) ?_
  unfold textT
  generalize (numT t).1 = n at *
  rcases hq : (numT t).2 with _ | r
  · have hn0 := h0 hq
    subst hn0
    have hw0 : IntKind.u64.wrap 0 = 0 := by decide
    simp only [tkC, byts, bool, u64, str, hw0, FinR, evRes, evRVs, evRV, am, simprocAttr, tys]
    exact ⟨_, [], [0], rfl, ⟨rfl, rfl, by simp, (fun i hi => .inr ((by decide : ∀ i, i < 1 → ([0] : List Nat).getD i 0 = i) i hi)), trivial, ⟨.inr ⟨by decide, rfl⟩, trivial⟩, rfl, by decide, rfl, (by first | rfl | simp [scRow, tkC_scs])⟩, rfl, rfl⟩
  · have hrl := hr r hq
    have e1 : IntKind.u64.wrap (r.length : Int) = r.length := IntWalk.u64_in _ (by omega)
    rcases Nat.lt_or_ge r.length n with hlt | hge
    · have hI : ((r.length : Int) < n) := by omega
      simp only [tkC, byts, bool, u64, str, hlt, hI, e1, am, simprocAttr, tys]
      refine ACall.of (tkFail (some r)) [0] [] rfl (by simp) (by simp) (by simp) (by repeat' (first | exact trivial | exact .inl rfl | exact .inr rfl | exact .inr ⟨rfl, rfl, rfl, by simp; done⟩ | exact .inr ⟨rfl, by simp; done⟩ | exact .inr ⟨rfl, rfl, by simp; done⟩ | apply And.intro)) (by repeat' (first | exact trivial | rfl | exact (tkC_ren.1 _ _).symm | (simp; done) | apply And.intro)) (by first | exact .inl rfl | (refine .inr ⟨trivial, ?_⟩; first | (intro row h; rcases List.mem_singleton.1 h with rfl; exact nvB _) | (intro row h; cases h; done) | (simp; done)) | (refine .inr ⟨by simp [nvP, nvP.nvPs, nvD, nilS, errno], ?_⟩; first | (intro row h; rcases List.mem_singleton.1 h with rfl; exact nvB _) | (intro row h; cases h; done) | (simp [nvRow, nvD, nvP]; done))) ?_
      simp only [tkC, bool, FinR, evRes, evRVs, evRV, am, simprocAttr, tys]
      exact ⟨_, [], [0], rfl, ⟨rfl, rfl, by simp, (fun i hi => .inr ((by decide : ∀ i, i < 1 → ([0] : List Nat).getD i 0 = i) i hi)), trivial, ⟨.inr ⟨by decide, rfl⟩, trivial⟩, rfl, by decide, rfl, (by first | rfl | simp [scRow, tkC_scs])⟩, rfl, rfl⟩
    · have hI : ¬ ((r.length : Int) < n) := by omega
      have hI2 : ((n : Int) ≤ r.length) := by omega
      have hN : ¬ (r.length < n) := by omega
      simp only [tkC, byts, bool, u64, str, hN, hI, hI2, e1, Int.natCast_nonneg, ← List.map_take, ← List.map_drop, List.take_length, strOf_encB, FinR, evRes, evRVs, evRV, am, simprocAttr, tys]
      exact ⟨by omega, ⟨_, [], [0], rfl, ⟨rfl, rfl, by simp, (fun i hi => .inr ((by decide : ∀ i, i < 1 → ([0] : List Nat).getD i 0 = i) i hi)), trivial, ⟨.inr ⟨by decide, rfl⟩, trivial⟩, rfl, by decide, rfl, (by first | rfl | simp [scRow, tkC_scs])⟩, rfl, rfl⟩⟩

theorem refText (t : Tk) (hl : ∀ bs, t = some bs → bs.length ≤ 100000000000000) : AFun Try.prog 89 [.ptr 0 0] [.box (tkC t)] (str (textT t).1) [.box (tkC (textT t).2)] := by
  refine AFun.of_walk hP Try.func89 rfl rfl rfl (by simp) rfl ?_
  obtain ⟨hn, hr⟩ := numT_lt t hl
  have h0 := numT_none t
  simp only [Try.f89, am, simprocAttr, tys]
  refine ACall.of (refNum t hl) [0] [] rfl (by simp) (by simp) (by simp) (by repeat' (first | exact trivial | exact .inl rfl | exact .inr rfl | exact .inr ⟨rfl, rfl, rfl, by simp; done⟩ | exact .inr ⟨rfl, by simp; done⟩ | exact .inr ⟨rfl, rfl, by simp; done⟩ | apply And.intro)) (by repeat' (first | exact trivial | rfl | exact (tkC_ren.1 _ _).symm | (simp; done) | apply And.intro)) (by first | exact .inl rfl | (refine .inr ⟨trivial, ?_⟩; first | (intro row h; rcases List.mem_singleton.1 h with rfl; exact nvB _) | (intro row h; cases h; done) | (simp; done)) | (refine .inr ⟨by simp [nvP, nvP.nvPs, nvD, nilS, errno], ?_⟩; first | (intro row h; rcases List.mem_singleton.1 h with rfl; exact nvB _) | (intro row h; cases h; done) | (simp [nvRow, nvD, nvP]; done))) ?_
  unfold textT
  generalize (numT t).1 = n at *
  rcases hq : (numT t).2 with _ | r
  · have hn0 := h0 hq
    subst hn0
    have hw0 : IntKind.u64.wrap 0 = 0 := by decide
    simp only [tkC, byts, bool, u64, str, hw0, FinR, evRes, evRVs, evRV, am, simprocAttr, tys]
    exact ⟨_, [], [0], rfl, ⟨rfl, rfl, by simp, (fun i hi => .inr ((by decide : ∀ i, i < 1 → ([0] : List Nat).getD i 0 = i) i hi)), trivial, ⟨.inr ⟨by decide, rfl⟩, trivial⟩, rfl, by decide, rfl, (by first | rfl | simp [scRow, tkC_scs])⟩, rfl, rfl⟩
  · have hrl := hr r hq
    have e1 : IntKind.u64.wrap (r.length : Int) = r.length := IntWalk.u64_in _ (by omega)
    rcases Nat.lt_or_ge r.length n with hlt | hge
    · have hI : ((r.length : Int) < n) := by omega
      simp only [tkC, byts, bool, u64, str, hlt, hI, e1, am, simprocAttr, tys]
      refine ACall.of (refFail (some r)) [0] [] rfl (by simp) (by simp) (by simp) (by repeat' (first | exact trivial | exact .inl rfl | exact .inr rfl | exact .inr ⟨rfl, rfl, rfl, by simp; done⟩ | exact .inr ⟨rfl, by simp; done⟩ | exact .inr ⟨rfl, rfl, by simp; done⟩ | apply And.intro)) (by repeat' (first | exact trivial | rfl | exact (tkC_ren.1 _ _).symm | (simp; done) | apply And.intro)) (by first | exact .inl rfl | (refine .inr ⟨trivial, ?_⟩; first | (intro row h; rcases List.mem_singleton.1 h with rfl; exact nvB _) | (intro row h; cases h; done) | (simp; done)) | (refine .inr ⟨by simp [nvP, nvP.nvPs, nvD, nilS, errno], ?_⟩; first | (intro row h; rcases List.mem_singleton.1 h with rfl; exact nvB _) | (intro row h; cases h; done) | (simp [nvRow, nvD, nvP]; done))) ?_
      simp only [tkC, bool, FinR, evRes, evRVs, evRV, am, simprocAttr, tys]
      exact ⟨_, [], [0], rfl, ⟨rfl, rfl, by simp, (fun i hi => .inr ((by decide : ∀ i, i < 1 → ([0] : List Nat).getD i 0 = i) i hi)), trivial, ⟨.inr ⟨by decide, rfl⟩, trivial⟩, rfl, by decide, rfl, (by first | rfl | simp [scRow, tkC_scs])⟩, rfl, rfl⟩
    · have hI : ¬ ((r.length : Int) < n) := by omega
      have hI2 : ((n : Int) ≤ r.length) := by omega
      have hN : ¬ (r.length < n) := by omega
      simp only [tkC, byts, bool, u64, str, hN, hI, hI2, e1, Int.natCast_nonneg, ← List.map_take, ← List.map_drop, List.take_length, strOf_encB, FinR, evRes, evRVs, evRV, am, simprocAttr, tys]
      exact ⟨by omega, ⟨_, [], [0], rfl, ⟨rfl, rfl, by simp, (fun i hi => .inr ((by decide : ∀ i, i < 1 → ([0] : List Nat).getD i 0 = i) i hi)), trivial, ⟨.inr ⟨by decide, rfl⟩, trivial⟩, rfl, by decide, rfl, (by first | rfl | simp [scRow, tkC_scs])⟩, rfl, rfl⟩⟩

end Go.Proofs.Ytflpphgccjlkjaa

set_option linter.unusedSimpArgs false
set_option linter.unusedVariables false
namespace Go.Proofs.Ytflpphgccjlkjaa
open Go Go.AM

def TkB (n : Nat) (t : Tk) : Prop := ∀ bs, t = some bs → bs.length ≤ n
theorem TkB.le {n m : Nat} {t : Tk} (h : TkB n t) (hnm : n ≤ m) : TkB m t := fun bs e => Nat.le_trans (h bs e) hnm
theorem numT_some {t : Tk} {r : List UInt8} (h : (numT t).2 = some r) : (numT t).1 < 18446744073709551616 ∧ t = some (leb (numT t).1 ++ r) := by
  rcases t with _ | bs
  · simp [numT] at h
  · rcases hk : takeNum bs with _ | ⟨m, s⟩
    · simp only [numT, hk] at h; cases h
    · simp only [numT, hk, Option.some.injEq] at h ⊢
      subst h
      exact takeNum_some hk
theorem numT_leb (n : Nat) (r : List UInt8) (h : n < 18446744073709551616) : numT (some (leb n ++ r)) = (n, some r) := by
  simp only [numT, takeNum_leb n r h]
theorem textT_some {t : Tk} {r : List UInt8} (h : (textT t).2 = some r) : t = some (lebT (textT t).1 ++ r) := by
  unfold textT at h ⊢
  rcases hk : (numT t).2 with _ | s
  · rw [hk] at h; cases h
  · rw [hk] at h
    simp only at h ⊢
    obtain ⟨h1, h2⟩ := numT_some hk
    split at h
    · cases h
    · rename_i hlt
      simp only [Option.some.injEq] at h
      subst h
      have hl : (s.take (numT t).1).length = (numT t).1 := by rw [List.length_take]; omega
      rw [if_neg hlt]
      simp only
      unfold lebT
      rw [hl, List.append_assoc, List.take_append_drop]
      exact h2
theorem textT_lebT (s r : List UInt8) (h : s.length < 18446744073709551616) : textT (some (lebT s ++ r)) = (s, some r) := by
  have e : numT (some (lebT s ++ r)) = (s.length, some (s ++ r)) := by
    simp only [numT, lebT, List.append_assoc, takeNum_leb s.length (s ++ r) h]
  unfold textT
  rw [e]
  simp
theorem numT_B {n : Nat} (t : Tk) (h : TkB n t) : TkB n (numT t).2 := by
  intro r hr
  obtain ⟨_, h2⟩ := numT_some hr
  have := h _ h2
  rw [List.length_append] at this; omega
theorem textT_B {n : Nat} (t : Tk) (h : TkB n t) : TkB n (textT t).2 ∧ (textT t).1.length ≤ n := by
  constructor
  · intro r hr
    have h2 := textT_some hr
    have := h _ h2
    rw [List.length_append] at this; omega
  · rcases hk : (textT t).2 with _ | r
    · have : (textT t).1 = [] := by
        unfold textT at hk ⊢
        rcases hk2 : (numT t).2 with _ | s
        · rfl
        · rw [hk2] at hk
          simp only at hk ⊢
          split at hk
          · rename_i h'; rw [if_pos h']
          · cases hk
      rw [this]; simp
    · have h2 := textT_some hk
      have := h _ h2
      unfold lebT at this
      simp only [List.length_append] at this; omega

theorem drop_tail (a r : List UInt8) : (a ++ r).drop ((a ++ r).length - r.length) = r := by
  have : (a ++ r).length - r.length = a.length := by simp
  rw [this]; simp
end Go.Proofs.Ytflpphgccjlkjaa

set_option linter.unusedSimpArgs false
set_option linter.unusedVariables false
namespace Go.Proofs.Ytflpphgccjlkjaa
open Go Go.AM

theorem cloneB (b : List UInt8) (hl : b.length ≤ 100000000000000) : AFun Try.prog 85 [byts b] [] (byts b) [] := by
  rcases b with _ | ⟨x, b⟩
  · refine AFun.nil0 1 fun a cap => ?_
    rcases a with _ | a
    · refine AFun.weaken (r := nilS) ?_ trivial (fun rows β w X v h => nil_sl 1 rows β w X v h)
      refine AFun.of_walk hP Try.func85 rfl rfl rfl (by simp) rfl ?_
      simp only [Try.f85, nilS, FinR, evRes, evRVs, evRV, am, simprocAttr, tys]
      exact ⟨_, [], [], rfl, Ent.plain rfl rfl rfl trivial rfl, rfl, rfl⟩
    · refine AFun.of_walk hP Try.func85 rfl rfl rfl (by simp) rfl ?_
      simp only [Try.f85, FinR, evRes, evRVs, evRV, am, simprocAttr, tys]
      exact ⟨_, [1], [], rfl, ⟨rfl, rfl, by simp, (fun i hi => absurd hi (Nat.not_lt_zero _)), trivial, trivial, rfl, by decide, rfl, (by first | rfl | simp [scRow, tkC_scs])⟩, rfl, rfl⟩
  · have hlen : 0 < (x :: b).length := by simp
    refine AFun.of_walk hP Try.func85 rfl rfl rfl (by simp) rfl ?_
    generalize x :: b = y at *
    simp only [Try.f85, byts, hlen, FinR, evRes, evRVs, evRV, am, simprocAttr, tys]
    exact ⟨by omega, ⟨_, [1], [], rfl, ⟨rfl, rfl, by simp, (fun i hi => absurd hi (Nat.not_lt_zero _)), trivial, trivial, rfl, by decide, rfl, (by first | rfl | simp [scRow, tkC_scs])⟩, rfl, rfl⟩⟩
end Go.Proofs.Ytflpphgccjlkjaa

set_option linter.unusedSimpArgs false
set_option linter.unusedVariables false
namespace Go.Proofs.Ytflpphgccjlkjaa
open Go Go.AM

def takeLR : Option (List Lab × List UInt8) → PV
  | none => .tup [nilS, nilS, errno 6]
  | some (l, r) => .tup [.d (.sl 2 (l.map encL)), byts r, errno 0]
theorem textT_none {t : Tk} (h : (textT t).2 = none) : (textT t).1 = [] := by
  unfold textT at h ⊢
  rcases hk2 : (numT t).2 with _ | s
  · rfl
  · rw [hk2] at h
    simp only at h ⊢
    split at h
    · rename_i h'; rw [if_pos h']
    · cases h
theorem lab_fwd {t : Tk} {r3 : List UInt8} (h : (textT (textT t).2).2 = some r3) : t = some (encLab ((textT t).1, (textT (textT t).2).1, ()) ++ r3) := by
  have e2 := textT_some h
  have e1 := textT_some e2
  conv => lhs; rw [e1]
  simp [encLab]
theorem lab_bwd (a : Lab) (r : List UInt8) (ha : a.1.length ≤ 16 ∧ a.2.1.length ≤ 64) : textT (some (encLab a ++ r)) = (a.1, some (lebT a.2.1 ++ r)) ∧ textT (some (lebT a.2.1 ++ r)) = (a.2.1, some r) := by
  refine ⟨?_, textT_lebT _ _ (by omega)⟩
  have := textT_lebT a.1 (lebT a.2.1 ++ r) (by omega)
  unfold encLab
  simpa using this
theorem right_vals {l : List Lab} (h : rightL l = true) : l ≠ [] ∧ ∀ x ∈ l, x.2.1 ≠ [] := by
  obtain ⟨h1, h2, h3⟩ := (rightL_iff l).1 h
  refine ⟨fun e => by subst e; simp at h2, fun x hx e => ?_⟩
  obtain ⟨i, hi, rfl⟩ := List.getElem_of_mem hx
  have := h1 i hi
  rw [okAt_get l i hi] at this
  simp only [Bool.and_eq_true, valOk, decide_eq_true_eq] at this
  rw [e] at this; simp at this

set_option maxRecDepth 8000 in
theorem labelTake (b : List UInt8) (hl : b.length ≤ 100000000) : AFun Try.prog 86 [byts b] [] (takeLR (takeLb b)) [] := by
  refine AFun.of_walk hP Try.func86 rfl rfl rfl (by simp) rfl ?_
  simp only [Try.f86, am, simprocAttr, tys]
  refine ACall.of (octsNew b (by omega)) [] [] rfl (by simp) (by simp) (by simp) (by repeat' (first | exact trivial | exact .inl rfl | exact .inr rfl | exact .inr ⟨rfl, rfl, rfl, by simp; done⟩ | exact .inr ⟨rfl, by simp; done⟩ | exact .inr ⟨rfl, rfl, by simp; done⟩ | apply And.intro)) (by repeat' (first | exact trivial | rfl | exact (tkC_ren.1 _ _).symm | (simp; done) | apply And.intro)) (by first | exact .inl rfl | (refine .inr ⟨trivial, ?_⟩; first | (intro row h; rcases List.mem_singleton.1 h with rfl; exact nvB _) | (intro row h; cases h; done) | (simp; done)) | (refine .inr ⟨by simp [nvP, nvP.nvPs, nvD, nilS, errno], ?_⟩; first | (intro row h; rcases List.mem_singleton.1 h with rfl; exact nvB _) | (intro row h; cases h; done) | (simp [nvRow, nvD, nvP]; done))) ?_
  simp only [tkC_ren, am, simprocAttr, tys]
  refine ACall.of (tkNum (some b) (by intro bs h; cases h; omega)) [0] [] rfl (by simp) (by simp) (by simp) (by repeat' (first | exact trivial | exact .inl rfl | exact .inr rfl | exact .inr ⟨rfl, rfl, rfl, by simp; done⟩ | exact .inr ⟨rfl, by simp; done⟩ | exact .inr ⟨rfl, rfl, by simp; done⟩ | apply And.intro)) (by repeat' (first | exact trivial | rfl | exact (tkC_ren.1 _ _).symm | (simp; done) | apply And.intro)) (by first | exact .inl rfl | (refine .inr ⟨trivial, ?_⟩; first | (intro row h; rcases List.mem_singleton.1 h with rfl; exact nvB _) | (intro row h; cases h; done) | (simp; done)) | (refine .inr ⟨by simp [nvP, nvP.nvPs, nvD, nilS, errno], ?_⟩; first | (intro row h; rcases List.mem_singleton.1 h with rfl; exact nvB _) | (intro row h; cases h; done) | (simp [nvRow, nvD, nvP]; done))) ?_
  have hB0 : TkB b.length (some b) := fun bs h => by cases h; exact Nat.le_refl _
  rcases hk : takeNum b with _ | ⟨n, r⟩
  · have ht : takeLb b = none := by unfold takeLb takeL; rw [hk]
    have hr0 := labelRight [] (by simp) (by simp)
    rw [show rightL [] = false from rfl] at hr0
    simp only [numT, hk, u64, tkC_ren, am, simprocAttr, tys]
    refine ALoopW.intro 40 0 (ι := Unit) (fun _ => [(7, nilS), (15, .d (.lit (.int .u64 0))), (16, .d (.lit (.int .u64 0)))]) (fun _ => []) (fun _ => 0) () [] [] ?_ (fun _ => ?_)
    · exact Ent.plain rfl rfl rfl (⟨.inr rfl, .inr rfl, .inr rfl, trivial⟩) rfl
    have h0 : ¬ ((0 : Int) < 0) := by omega
    simp only [nilS, h0, am, simprocAttr, tys]
    refine ACall.of (hr0) [] [] rfl (by simp) (by simp) (by simp) (by repeat' (first | exact trivial | exact .inl rfl | exact .inr rfl | exact .inr ⟨rfl, rfl, rfl, by simp; done⟩ | exact .inr ⟨rfl, by simp; done⟩ | exact .inr ⟨rfl, rfl, by simp; done⟩ | apply And.intro)) (by repeat' (first | exact trivial | rfl | exact (tkC_ren.1 _ _).symm | (simp; done) | apply And.intro)) (by first | exact .inl rfl | (refine .inr ⟨trivial, ?_⟩; first | (intro row h; rcases List.mem_singleton.1 h with rfl; exact nvB _) | (intro row h; cases h; done) | (simp; done)) | (refine .inr ⟨by simp [nvP, nvP.nvPs, nvD, nilS, errno], ?_⟩; first | (intro row h; rcases List.mem_singleton.1 h with rfl; exact nvB _) | (intro row h; cases h; done) | (simp [nvRow, nvD, nvP]; done))) ?_
    simp only [bool, ht, takeLR, nilS, errno, FinR, evRes, evRVs, evRV, am, simprocAttr, tys]
    exact ⟨_, [], [], rfl, Ent.plain rfl rfl rfl trivial rfl, rfl, rfl⟩
  · obtain ⟨hn64, hbr⟩ := takeNum_some hk
    have hnl : ∀ l r', b = putLb l ++ r' → l.length < 18446744073709551616 → l.length = n ∧ r = fl encLab l ++ r' := fun l r' h hl64 => by
      unfold putLb putL at h
      rw [hbr, List.append_assoc] at h
      obtain ⟨h1, h2⟩ := leb_prefix_free hn64 hl64 h
      exact ⟨h1.symm, h2⟩
    rcases Nat.lt_or_ge 6 n with h8 | h8
    · have h8I : ((6 : Int) < (n : Int)) := by omega
      have ht : takeLb b = none := by
        unfold takeLb takeL; rw [hk]
        simp only
        rw [if_neg (by omega)]
      simp only [numT, hk, u64, h8I, ht, takeLR, nilS, errno, tkC_ren, FinR, evRes, evRVs, evRV, am, simprocAttr, tys]
      exact ⟨_, [], [], rfl, Ent.plain rfl rfl rfl trivial rfl, rfl, rfl⟩
    · have h8I : ¬ ((6 : Int) < (n : Int)) := by omega
      have hr0 : TkB b.length (some r) := fun bs h => by cases h; rw [hbr]; simp
      simp only [numT, hk, u64, h8I, tkC_ren, am, simprocAttr, tys]
      refine ALoopW.ghost 7 2 rfl ?_
      simp only [am, simprocAttr, tys]
      refine ALoopW.intro 40 0 (ι := { z : Nat × List Lab × Tk // z.1 ≤ n ∧ z.2.1.length = z.1 ∧ TkB b.length z.2.2 ∧ (∀ x ∈ z.2.1, x.1.length ≤ b.length ∧ x.2.1.length ≤ b.length) ∧ (z.2.2 = none → ∃ x ∈ z.2.1, x.2.1 = []) ∧ (∀ r', z.2.2 = some r' → b = leb n ++ fl encLab z.2.1 ++ r') ∧
          (∀ l r', rightL l = true → b = putLb l ++ r' → z.2.1 = l.take z.1 ∧ z.2.2 = some (fl encLab (l.drop z.1) ++ r')) })
        (fun z => [(0, .d (.sl 1 (b.map encB))), (5, .ptr 0 0), (7, .own 1), (15, .d (.lit (.int .u64 n))), (16, .d (.lit (.int .u64 z.1.1)))]) (fun z => [.box (tkC z.1.2.2), .own 2 (z.1.2.1.map encL)]) (fun z => n - z.1.1)
        ⟨(0, [], some r), by omega, rfl, hr0, by simp, (by intro h; cases h), by intro r' h; cases h; simp only [fl_nil, List.append_nil]; exact hbr, by
          intro l r' hok h
          obtain ⟨h8', _⟩ := rightL_len hok
          obtain ⟨g1, g2⟩ := hnl l r' h (by omega)
          exact ⟨rfl, by rw [g2]; rfl⟩⟩ [] [0, 1] ?_ (fun ⟨⟨k, o, t⟩, hk1, hok, htB, hoB, hno, hfw, hbw⟩ => ?_)
      · exact ⟨rfl, rfl, by simp, (fun i hi => absurd hi (Nat.not_lt_zero _)), ⟨.inr rfl, .inr rfl, .inr rfl, .inr rfl, .inr rfl, trivial⟩, ⟨.inr ⟨by decide, rfl⟩, .inr ⟨by decide, rfl⟩, trivial⟩, rfl, by decide, rfl, (by first | rfl | simp [scRow, tkC_scs])⟩
      simp only at hk1 hok htB hoB hno hfw hbw
      rcases Nat.lt_or_ge k n with hlt | hge
      · have hltI : ((k : Int) < (n : Int)) := by omega
        have w1 : IntKind.u64.wrap ((k : Int) + 1) = ((k + 1 : Nat) : Int) := by rw [IntWalk.u64_in _ (by omega)]; simp
        obtain ⟨hB2, hs2⟩ := textT_B t htB
        obtain ⟨hB3, hs3⟩ := textT_B (textT t).2 hB2
        simp only [hltI, am, simprocAttr, tys]
        refine ACall.of (tkText t (htB.le (by omega))) [0] [] rfl (by simp) (by simp) (by simp) (by repeat' (first | exact trivial | exact .inl rfl | exact .inr rfl | exact .inr ⟨rfl, rfl, rfl, by simp; done⟩ | exact .inr ⟨rfl, by simp; done⟩ | exact .inr ⟨rfl, rfl, by simp; done⟩ | apply And.intro)) (by repeat' (first | exact trivial | rfl | exact (tkC_ren.1 _ _).symm | (simp; done) | apply And.intro)) (by first | exact .inl rfl | (refine .inr ⟨trivial, ?_⟩; first | (intro row h; rcases List.mem_singleton.1 h with rfl; exact nvB _) | (intro row h; cases h; done) | (simp; done)) | (refine .inr ⟨by simp [nvP, nvP.nvPs, nvD, nilS, errno], ?_⟩; first | (intro row h; rcases List.mem_singleton.1 h with rfl; exact nvB _) | (intro row h; cases h; done) | (simp [nvRow, nvD, nvP]; done))) ?_
        simp only [tkC_ren, str, am, simprocAttr, tys]
        refine ACall.of (tkText (textT t).2 (hB2.le (by omega))) [0] [] rfl (by simp) (by simp) (by simp) (by repeat' (first | exact trivial | exact .inl rfl | exact .inr rfl | exact .inr ⟨rfl, rfl, rfl, by simp; done⟩ | exact .inr ⟨rfl, by simp; done⟩ | exact .inr ⟨rfl, rfl, by simp; done⟩ | apply And.intro)) (by repeat' (first | exact trivial | rfl | exact (tkC_ren.1 _ _).symm | (simp; done) | apply And.intro)) (by first | exact .inl rfl | (refine .inr ⟨trivial, ?_⟩; first | (intro row h; rcases List.mem_singleton.1 h with rfl; exact nvB _) | (intro row h; cases h; done) | (simp; done)) | (refine .inr ⟨by simp [nvP, nvP.nvPs, nvD, nilS, errno], ?_⟩; first | (intro row h; rcases List.mem_singleton.1 h with rfl; exact nvB _) | (intro row h; cases h; done) | (simp [nvRow, nvD, nvP]; done))) ?_
        have eapp : o.map encL ++ [[DV.lit (.string ⟨⟨(textT t).1⟩⟩), DV.lit (.string ⟨⟨(textT (textT t).2).1⟩⟩)]] = (o ++ [((textT t).1, (textT (textT t).2).1, ())]).map encL := by rw [List.map_append]; rfl
        simp only [tkC_ren, str, w1, eapp, am, simprocAttr, tys]
        refine ⟨by omega, ⟨(k + 1, o ++ [((textT t).1, (textT (textT t).2).1, ())], (textT (textT t).2).2), by omega, by simp [hok], hB3, ?_, ?_, ?_, ?_⟩, [], [0, 3], ⟨rfl, rfl, by simp, (fun i hi => absurd hi (Nat.not_lt_zero _)), ⟨.inr rfl, .inr rfl, .inr rfl, .inr rfl, .inr rfl, trivial⟩, ⟨.inr ⟨by decide, ?_⟩, .inr ⟨by decide, ?_⟩, trivial⟩, rfl, by decide, rfl, (by first | rfl | simp [scRow, tkC_scs])⟩, by show n - (k + 1) < n - k; omega⟩
        · intro x hx
          rcases List.mem_append.1 hx with hx | hx
          · exact hoB x hx
          · simp only [List.mem_singleton] at hx
            subst hx; exact ⟨hs2, hs3⟩
        · intro h
          exact ⟨_, List.mem_append_right _ (List.mem_singleton.2 rfl), textT_none h⟩
        · intro r' h
          have e1 := lab_fwd h
          have e2 := hfw _ e1
          rw [e2, fl_snoc]
          simp only [List.append_assoc]
        · intro l r' hrl hb
          obtain ⟨g1, g2⟩ := hbw l r' hrl hb
          obtain ⟨h8', _, hall⟩ := rightL_len hrl
          obtain ⟨g3, _⟩ := hnl l r' hb (by omega)
          have hkl : k < l.length := by omega
          rw [List.drop_eq_getElem_cons hkl, fl_cons, List.append_assoc] at g2
          obtain ⟨q3, q4⟩ := lab_bwd l[k] (fl encLab (l.drop (k + 1)) ++ r') (hall _ (List.getElem_mem hkl))
          rw [g2]
          simp only [q3, q4]
          refine ⟨?_, trivial⟩
          rw [List.take_succ_eq_append_getElem hkl, ← g1]
        · exact tkC_row _ _ _ _
        · rfl
      · have hltI : ¬ ((k : Int) < (n : Int)) := by omega
        have hkn : k = n := by omega
        subst hkn
        simp only [hltI, am, simprocAttr, tys]
        refine ACall.of (labelRight o (by omega) (fun x hx => by have := hoB x hx; omega)) [] [1] rfl (by simp) (by simp) (by simp) (by repeat' (first | exact trivial | exact .inl rfl | exact .inr rfl | exact .inr ⟨rfl, rfl, rfl, by simp; done⟩ | exact .inr ⟨rfl, by simp; done⟩ | exact .inr ⟨rfl, rfl, by simp; done⟩ | apply And.intro)) (by repeat' (first | exact trivial | rfl | exact (tkC_ren.1 _ _).symm | (simp; done) | apply And.intro)) (by first | exact .inl rfl | (refine .inr ⟨trivial, ?_⟩; first | (intro row h; rcases List.mem_singleton.1 h with rfl; exact nvB _) | (intro row h; cases h; done) | (simp; done)) | (refine .inr ⟨by simp [nvP, nvP.nvPs, nvD, nilS, errno], ?_⟩; first | (intro row h; rcases List.mem_singleton.1 h with rfl; exact nvB _) | (intro row h; cases h; done) | (simp [nvRow, nvD, nvP]; done))) ?_
        rcases hro : rightL o with _ | _
        · have ht : takeLb b = none := takeLb_none b fun l r' hrl hb => by
            obtain ⟨g1, g2⟩ := hbw l r' hrl hb
            obtain ⟨h8', _⟩ := rightL_len hrl
            obtain ⟨g3, _⟩ := hnl l r' hb (by omega)
            rw [List.take_of_length_le (by omega)] at g1
            rw [g1, hrl] at hro; cases hro
          simp only [bool, ht, takeLR, nilS, errno, FinR, evRes, evRVs, evRV, am, simprocAttr, tys]
          exact ⟨_, [], [], rfl, Ent.plain rfl rfl rfl trivial rfl, rfl, rfl⟩
        · rcases htt : t with _ | rest
          · obtain ⟨x, hx, he⟩ := hno htt
            exact absurd he ((right_vals hro).2 x hx)
          · have hbr2 := hfw rest htt
            have hb3 : b = putLb o ++ rest := by rw [hbr2]; unfold putLb putL; rw [hok]
            have ht : takeLb b = some (o, rest) := by rw [hb3]; exact takeLb_put o rest hro
            have hlr : rest.length ≤ b.length := htB rest htt
            have w3 : IntKind.i64.wrap ((b.length : Int) - rest.length) = ((b.length - rest.length : Nat) : Int) := by rw [IntWalk.i64_in _ (by omega)]; omega
            have w4 : b.drop (b.length - rest.length) = rest := by rw [hb3]; exact drop_tail _ _
            simp only [bool, am, simprocAttr, tys]
            refine ACall.of (tkLeft (some rest)) [0] [] rfl (by simp) (by simp) (by simp) (by repeat' (first | exact trivial | exact .inl rfl | exact .inr rfl | exact .inr ⟨rfl, rfl, rfl, by simp; done⟩ | exact .inr ⟨rfl, by simp; done⟩ | exact .inr ⟨rfl, rfl, by simp; done⟩ | apply And.intro)) (by repeat' (first | exact trivial | rfl | exact (tkC_ren.1 _ _).symm | (simp; done) | apply And.intro)) (by first | exact .inl rfl | (refine .inr ⟨trivial, ?_⟩; first | (intro row h; rcases List.mem_singleton.1 h with rfl; exact nvB _) | (intro row h; cases h; done) | (simp; done)) | (refine .inr ⟨by simp [nvP, nvP.nvPs, nvD, nilS, errno], ?_⟩; first | (intro row h; rcases List.mem_singleton.1 h with rfl; exact nvB _) | (intro row h; cases h; done) | (simp [nvRow, nvD, nvP]; done))) ?_
            simp only [leftT, int, w3, Int.natCast_nonneg, Int.toNat_natCast, ← List.map_take, ← List.map_drop, List.take_length, w4, tkC_ren, am, simprocAttr, tys]
            refine ⟨by omega, ?_⟩
            refine ACall.of (cloneB rest (by omega)) [] [] rfl (by simp) (by simp) (by simp) (by repeat' (first | exact trivial | exact .inl rfl | exact .inr rfl | exact .inr ⟨rfl, rfl, rfl, by simp; done⟩ | exact .inr ⟨rfl, by simp; done⟩ | exact .inr ⟨rfl, rfl, by simp; done⟩ | apply And.intro)) (by repeat' (first | exact trivial | rfl | exact (tkC_ren.1 _ _).symm | (simp; done) | apply And.intro)) (by first | exact .inl rfl | (refine .inr ⟨trivial, ?_⟩; first | (intro row h; rcases List.mem_singleton.1 h with rfl; exact nvB _) | (intro row h; cases h; done) | (simp; done)) | (refine .inr ⟨by simp [nvP, nvP.nvPs, nvD, nilS, errno], ?_⟩; first | (intro row h; rcases List.mem_singleton.1 h with rfl; exact nvB _) | (intro row h; cases h; done) | (simp [nvRow, nvD, nvP]; done))) ?_
            simp only [ht, takeLR, byts, errno, FinR, evRes, evRVs, evRV, am, simprocAttr, tys]
            exact ⟨_, [1], [], rfl, ⟨rfl, rfl, by simp, (fun i hi => absurd hi (Nat.not_lt_zero _)), trivial, trivial, rfl, by decide, rfl, (by first | rfl | simp [scRow, tkC_scs])⟩, rfl, rfl⟩
end Go.Proofs.Ytflpphgccjlkjaa

set_option linter.unusedSimpArgs false
set_option linter.unusedVariables false
namespace Go.Proofs.Ytflpphgccjlkjaa
open Go Go.AM

theorem tkEnd (t : Tk) : AFun Try.prog 42 [.ptr 0 0] [.box (tkC t)] (errno (endT t)) [.box (tkC t)] := by
  refine AFun.of_walk hP Try.func42 rfl rfl rfl (by simp) rfl ?_
  rcases t with _ | bs
  · simp only [Try.f42, tkC, byts, bool, FinR, evRes, evRVs, evRV, am, simprocAttr, tys]
    exact ⟨_, [], [0], rfl, ⟨rfl, rfl, by simp, (fun i hi => .inr ((by decide : ∀ i, i < 1 → ([0] : List Nat).getD i 0 = i) i hi)), trivial, ⟨.inr ⟨by decide, rfl⟩, trivial⟩, rfl, by decide, rfl, (by first | rfl | simp [scRow, tkC_scs])⟩, rfl, rfl⟩
  · rcases bs with _ | ⟨b, bs⟩
    · simp only [Try.f42, tkC, byts, bool, FinR, evRes, evRVs, evRV, am, simprocAttr, tys]
      exact ⟨_, [], [0], rfl, ⟨rfl, rfl, by simp, (fun i hi => .inr ((by decide : ∀ i, i < 1 → ([0] : List Nat).getD i 0 = i) i hi)), trivial, ⟨.inr ⟨by decide, rfl⟩, trivial⟩, rfl, by decide, rfl, (by first | rfl | simp [scRow, tkC_scs])⟩, rfl, rfl⟩
    · have h : ((0 : Int) < ((bs.length + 1 : Nat) : Int)) := by omega
      simp only [Try.f42, tkC, byts, bool, h, FinR, evRes, evRVs, evRV, am, simprocAttr, tys]
      exact ⟨_, [], [0], rfl, ⟨rfl, rfl, by simp, (fun i hi => .inr ((by decide : ∀ i, i < 1 → ([0] : List Nat).getD i 0 = i) i hi)), trivial, ⟨.inr ⟨by decide, rfl⟩, trivial⟩, rfl, by decide, rfl, (by first | rfl | simp [scRow, tkC_scs])⟩, rfl, rfl⟩

end Go.Proofs.Ytflpphgccjlkjaa

set_option linter.unusedSimpArgs false
set_option linter.unusedVariables false
namespace Go.Proofs.Ytflpphgccjlkjaa
open Go Go.AM

/-! ## what is asked by bytes -/
def decAsk (bs : List UInt8) : Option (Ask × List UInt8) :=
  match bs with
  | [] => none
  | c :: r => match takeText r with
    | none => none
    | some (s, r1) => match takeText r1 with
      | none => none
      | some (v, r2) => some ((c, s, v, ()), r2)
theorem decAsk_some (bs : List UInt8) (x : Ask) (r : List UInt8) (h : decAsk bs = some (x, r)) : bs = encAsk x ++ r := by
  unfold decAsk at h
  split at h
  · cases h
  · rename_i c r0
    split at h
    · cases h
    · rename_i s r1 h1
      split at h
      · cases h
      · rename_i v r2 h2
        simp only [Option.some.injEq, Prod.mk.injEq] at h
        obtain ⟨rfl, rfl⟩ := h
        rw [(takeText_some h1).1, (takeText_some h2).1]
        simp [encAsk]
theorem decAsk_enc (x : Ask) (h1 : x.2.1.length < 18446744073709551616) (h2 : x.2.2.1.length < 18446744073709551616) (r : List UInt8) : decAsk (encAsk x ++ r) = some (x, r) := by
  unfold encAsk decAsk
  simp only [List.cons_append, List.append_assoc, takeText_lebT _ _ h1, takeText_lebT _ _ h2]

def takeA (b : List UInt8) : Option (List Ask × List UInt8) := takeL decAsk rightA 8 b
theorem takeA_some {b : List UInt8} {l : List Ask} {r : List UInt8} (h : takeA b = some (l, r)) : rightA l = true ∧ b = putA l ++ r := takeL_some encAsk decAsk decAsk_some h
theorem takeA_put (l : List Ask) (r : List UInt8) (h : rightA l = true) : takeA (putA l ++ r) = some (l, r) := by
  obtain ⟨h8, hall⟩ := rightA_len h
  refine takeL_put encAsk decAsk r h h8 (by omega) fun x hx r => ?_
  obtain ⟨h1, h2⟩ := mayOk_len (hall x hx)
  exact decAsk_enc x (by omega) (by omega) r
theorem takeA_none (b : List UInt8) (h : ∀ l r, rightA l = true → b = putA l ++ r → False) : takeA b = none := by
  rcases hk : takeA b with _ | ⟨l, r⟩
  · rfl
  · obtain ⟨h1, h2⟩ := takeA_some hk
    exact (h l r h1 h2).elim
def takeAR : Option (List Ask × List UInt8) → PV
  | none => .tup [nilS, nilS, errno 6]
  | some (l, r) => .tup [.d (.sl 3 (l.map encA)), byts r, errno 0]

theorem leb_op (c : UInt8) (h : c.toNat < 128) : leb c.toNat = [c] := by rw [leb, if_pos h]; simp

/-- one more -/
theorem ask_fwd {t : Tk} {r3 : List UInt8} (hop : (numT t).1 ≤ 4) (h : (textT (textT (numT t).2).2).2 = some r3) :
    t = some (encAsk (UInt8.ofNat (numT t).1, (textT (numT t).2).1, (textT (textT (numT t).2).2).1, ()) ++ r3) := by
  have e2 := textT_some h
  have e1 := textT_some e2
  obtain ⟨_, e0⟩ := numT_some e1
  have : leb (numT t).1 = [UInt8.ofNat (numT t).1] := by rw [leb, if_pos (by omega)]
  rw [this] at e0
  conv => lhs; rw [e0]
  simp [encAsk]
theorem ask_bwd (a : Ask) (r : List UInt8) (ha : mayOk a = true) : numT (some (encAsk a ++ r)) = (a.1.toNat, some (lebT a.2.1 ++ (lebT a.2.2.1 ++ r))) ∧ a.1.toNat ≤ 4 ∧
    textT (some (lebT a.2.1 ++ (lebT a.2.2.1 ++ r))) = (a.2.1, some (lebT a.2.2.1 ++ r)) ∧ textT (some (lebT a.2.2.1 ++ r)) = (a.2.2.1, some r) := by
  obtain ⟨h1, h2⟩ := mayOk_len ha
  have h4 : a.1.toNat ≤ 4 := by
    have hm : mayOk a = (nameOk a.2.1 && decide (a.2.2.1.length ≤ 64) && (if a.1 = 1 then !(a.2.2.1 == []) else if a.1 = 4 then a.2.2.1 == [] else decide (a.1 = 2) || decide (a.1 = 3))) := rfl
    rw [hm] at ha
    simp only [Bool.and_eq_true] at ha
    have h3 := ha.2
    by_cases q1 : a.1 = 1
    · rw [q1]; decide
    · rw [if_neg q1] at h3
      by_cases q4 : a.1 = 4
      · rw [q4]; decide
      · rw [if_neg q4] at h3
        simp only [Bool.or_eq_true, decide_eq_true_eq] at h3
        rcases h3 with q | q <;> rw [q] <;> decide
  refine ⟨?_, h4, textT_lebT _ _ (by omega), textT_lebT _ _ (by omega)⟩
  have := numT_leb a.1.toNat (lebT a.2.1 ++ (lebT a.2.2.1 ++ r)) (by omega)
  rw [leb_op a.1 (by omega)] at this
  unfold encAsk
  simpa using this

set_option maxRecDepth 8000 in
theorem matchTake (b : List UInt8) (hl : b.length ≤ 100000000) : AFun Try.prog 88 [byts b] [] (takeAR (takeA b)) [] := by
  refine AFun.of_walk hP Try.func88 rfl rfl rfl (by simp) rfl ?_
  simp only [Try.f88, am, simprocAttr, tys]
  refine ACall.of (octsNew b (by omega)) [] [] rfl (by simp) (by simp) (by simp) (by repeat' (first | exact trivial | exact .inl rfl | exact .inr rfl | exact .inr ⟨rfl, rfl, rfl, by simp; done⟩ | exact .inr ⟨rfl, by simp; done⟩ | exact .inr ⟨rfl, rfl, by simp; done⟩ | apply And.intro)) (by repeat' (first | exact trivial | rfl | exact (tkC_ren.1 _ _).symm | (simp; done) | apply And.intro)) (by first | exact .inl rfl | (refine .inr ⟨trivial, ?_⟩; first | (intro row h; rcases List.mem_singleton.1 h with rfl; exact nvB _) | (intro row h; cases h; done) | (simp; done)) | (refine .inr ⟨by simp [nvP, nvP.nvPs, nvD, nilS, errno], ?_⟩; first | (intro row h; rcases List.mem_singleton.1 h with rfl; exact nvB _) | (intro row h; cases h; done) | (simp [nvRow, nvD, nvP]; done))) ?_
  simp only [tkC_ren, am, simprocAttr, tys]
  refine ACall.of (tkNum (some b) (by intro bs h; cases h; omega)) [0] [] rfl (by simp) (by simp) (by simp) (by repeat' (first | exact trivial | exact .inl rfl | exact .inr rfl | exact .inr ⟨rfl, rfl, rfl, by simp; done⟩ | exact .inr ⟨rfl, by simp; done⟩ | exact .inr ⟨rfl, rfl, by simp; done⟩ | apply And.intro)) (by repeat' (first | exact trivial | rfl | exact (tkC_ren.1 _ _).symm | (simp; done) | apply And.intro)) (by first | exact .inl rfl | (refine .inr ⟨trivial, ?_⟩; first | (intro row h; rcases List.mem_singleton.1 h with rfl; exact nvB _) | (intro row h; cases h; done) | (simp; done)) | (refine .inr ⟨by simp [nvP, nvP.nvPs, nvD, nilS, errno], ?_⟩; first | (intro row h; rcases List.mem_singleton.1 h with rfl; exact nvB _) | (intro row h; cases h; done) | (simp [nvRow, nvD, nvP]; done))) ?_
  have hB0 : TkB b.length (some b) := fun bs h => by cases h; exact Nat.le_refl _
  rcases hk : takeNum b with _ | ⟨n, r⟩
  · have ht : takeA b = none := by unfold takeA takeL; rw [hk]
    simp only [numT, hk, u64, tkC_ren, am, simprocAttr, tys]
    refine ACall.of (tkLeft none) [0] [] rfl (by simp) (by simp) (by simp) (by repeat' (first | exact trivial | exact .inl rfl | exact .inr rfl | exact .inr ⟨rfl, rfl, rfl, by simp; done⟩ | exact .inr ⟨rfl, by simp; done⟩ | exact .inr ⟨rfl, rfl, by simp; done⟩ | apply And.intro)) (by repeat' (first | exact trivial | rfl | exact (tkC_ren.1 _ _).symm | (simp; done) | apply And.intro)) (by first | exact .inl rfl | (refine .inr ⟨trivial, ?_⟩; first | (intro row h; rcases List.mem_singleton.1 h with rfl; exact nvB _) | (intro row h; cases h; done) | (simp; done)) | (refine .inr ⟨by simp [nvP, nvP.nvPs, nvD, nilS, errno], ?_⟩; first | (intro row h; rcases List.mem_singleton.1 h with rfl; exact nvB _) | (intro row h; cases h; done) | (simp [nvRow, nvD, nvP]; done))) ?_
    simp only [leftT, int, tkC_ren, am, simprocAttr, tys]
    refine ACall.of (tkEnd none) [0] [] rfl (by simp) (by simp) (by simp) (by repeat' (first | exact trivial | exact .inl rfl | exact .inr rfl | exact .inr ⟨rfl, rfl, rfl, by simp; done⟩ | exact .inr ⟨rfl, by simp; done⟩ | exact .inr ⟨rfl, rfl, by simp; done⟩ | apply And.intro)) (by repeat' (first | exact trivial | rfl | exact (tkC_ren.1 _ _).symm | (simp; done) | apply And.intro)) (by first | exact .inl rfl | (refine .inr ⟨trivial, ?_⟩; first | (intro row h; rcases List.mem_singleton.1 h with rfl; exact nvB _) | (intro row h; cases h; done) | (simp; done)) | (refine .inr ⟨by simp [nvP, nvP.nvPs, nvD, nilS, errno], ?_⟩; first | (intro row h; rcases List.mem_singleton.1 h with rfl; exact nvB _) | (intro row h; cases h; done) | (simp [nvRow, nvD, nvP]; done))) ?_
    simp only [ht, takeAR, nilS, endT, errno, FinR, evRes, evRVs, evRV, am, simprocAttr, tys]
    exact ⟨_, [], [], rfl, Ent.plain rfl rfl rfl trivial rfl, rfl, rfl⟩
  · obtain ⟨hn64, hbr⟩ := takeNum_some hk
    have hnl : ∀ l r', b = putA l ++ r' → l.length < 18446744073709551616 → l.length = n ∧ r = fl encAsk l ++ r' := fun l r' h hl64 => by
      unfold putA putL at h
      rw [hbr, List.append_assoc] at h
      obtain ⟨h1, h2⟩ := leb_prefix_free hn64 hl64 h
      exact ⟨h1.symm, h2⟩
    rcases Nat.lt_or_ge 8 n with h8 | h8
    · have h8I : ((8 : Int) < (n : Int)) := by omega
      have ht : takeA b = none := by
        unfold takeA takeL; rw [hk]
        simp only
        rw [if_neg (by omega)]
      simp only [numT, hk, u64, h8I, ht, takeAR, nilS, errno, tkC_ren, FinR, evRes, evRVs, evRV, am, simprocAttr, tys]
      exact ⟨_, [], [], rfl, Ent.plain rfl rfl rfl trivial rfl, rfl, rfl⟩
    · have h8I : ¬ ((8 : Int) < (n : Int)) := by omega
      have hr0 : TkB b.length (some r) := fun bs h => by cases h; rw [hbr]; simp
      simp only [numT, hk, u64, h8I, tkC_ren, am, simprocAttr, tys]
      refine ACall.of (tkLeft (some r)) [0] [] rfl (by simp) (by simp) (by simp) (by repeat' (first | exact trivial | exact .inl rfl | exact .inr rfl | exact .inr ⟨rfl, rfl, rfl, by simp; done⟩ | exact .inr ⟨rfl, by simp; done⟩ | exact .inr ⟨rfl, rfl, by simp; done⟩ | apply And.intro)) (by repeat' (first | exact trivial | rfl | exact (tkC_ren.1 _ _).symm | (simp; done) | apply And.intro)) (by first | exact .inl rfl | (refine .inr ⟨trivial, ?_⟩; first | (intro row h; rcases List.mem_singleton.1 h with rfl; exact nvB _) | (intro row h; cases h; done) | (simp; done)) | (refine .inr ⟨by simp [nvP, nvP.nvPs, nvD, nilS, errno], ?_⟩; first | (intro row h; rcases List.mem_singleton.1 h with rfl; exact nvB _) | (intro row h; cases h; done) | (simp [nvRow, nvD, nvP]; done))) ?_
      rcases hlz : (((r.length : Nat) : Int) == 0) with _ | _
      case' false =>
        simp only [leftT, int, hlz, tkC_ren, am, simprocAttr, tys]
      case' true =>
        have hE : endT (some r) = 0 := by
          have : r = [] := List.eq_nil_of_length_eq_zero (by have := eq_of_beq hlz; omega)
          rw [this]; rfl
        simp only [leftT, int, hlz, tkC_ren, am, simprocAttr, tys]
        refine ACall.of (tkEnd (some r)) [0] [] rfl (by simp) (by simp) (by simp) (by repeat' (first | exact trivial | exact .inl rfl | exact .inr rfl | exact .inr ⟨rfl, rfl, rfl, by simp; done⟩ | exact .inr ⟨rfl, by simp; done⟩ | exact .inr ⟨rfl, rfl, by simp; done⟩ | apply And.intro)) (by repeat' (first | exact trivial | rfl | exact (tkC_ren.1 _ _).symm | (simp; done) | apply And.intro)) (by first | exact .inl rfl | (refine .inr ⟨trivial, ?_⟩; first | (intro row h; rcases List.mem_singleton.1 h with rfl; exact nvB _) | (intro row h; cases h; done) | (simp; done)) | (refine .inr ⟨by simp [nvP, nvP.nvPs, nvD, nilS, errno], ?_⟩; first | (intro row h; rcases List.mem_singleton.1 h with rfl; exact nvB _) | (intro row h; cases h; done) | (simp [nvRow, nvD, nvP]; done))) ?_
        simp only [hE, errno, tkC_ren, am, simprocAttr, tys]
      all_goals
        refine ALoopW.ghost 7 3 rfl ?_
        simp only [am, simprocAttr, tys]
        refine ALoopW.intro 67 0 (ι := { z : Nat × List Ask × Tk // z.1 ≤ n ∧ z.2.1.length = z.1 ∧ TkB b.length z.2.2 ∧ (∀ x ∈ z.2.1, x.2.1.length ≤ b.length) ∧ (∀ r', z.2.2 = some r' → b = leb n ++ fl encAsk z.2.1 ++ r') ∧
            (∀ l r', rightA l = true → b = putA l ++ r' → z.2.1 = l.take z.1 ∧ z.2.2 = some (fl encAsk (l.drop z.1) ++ r')) })
          (fun z => [(0, .d (.sl 1 (b.map encB))), (5, .ptr 0 0), (7, .own 1), (26, .d (.lit (.int .u64 n))), (27, .d (.lit (.int .u64 z.1.1)))]) (fun z => [.box (tkC z.1.2.2), .own 3 (z.1.2.1.map encA)]) (fun z => n - z.1.1)
          ⟨(0, [], some r), by omega, rfl, hr0, by simp, by intro r' h; cases h; simp only [fl_nil, List.append_nil]; exact hbr, by
            intro l r' hok h
            obtain ⟨h8', _⟩ := rightA_len hok
            obtain ⟨g1, g2⟩ := hnl l r' h (by omega)
            exact ⟨rfl, by rw [g2]; rfl⟩⟩ [] [0, 1] ?_ (fun ⟨⟨k, o, t⟩, hk1, hok, htB, hoB, hfw, hbw⟩ => ?_)
        · exact ⟨rfl, rfl, by simp, (fun i hi => absurd hi (Nat.not_lt_zero _)), ⟨.inr rfl, .inr rfl, .inr rfl, .inr rfl, .inr rfl, trivial⟩, ⟨.inr ⟨by decide, rfl⟩, .inr ⟨by decide, rfl⟩, trivial⟩, rfl, by decide, rfl, (by first | rfl | simp [scRow, tkC_scs])⟩
        simp only at hk1 hok htB hoB hfw hbw
        rcases Nat.lt_or_ge k n with hlt | hge
        · have hltI : ((k : Int) < (n : Int)) := by omega
          have w1 : IntKind.u64.wrap ((k : Int) + 1) = ((k + 1 : Nat) : Int) := by rw [IntWalk.u64_in _ (by omega)]; simp
          have hB1 := numT_B t htB
          obtain ⟨hB2, hs2⟩ := textT_B (numT t).2 hB1
          obtain ⟨hB3, hs3⟩ := textT_B (textT (numT t).2).2 hB2
          simp only [hltI, am, simprocAttr, tys]
          refine ACall.of (tkNum t (htB.le (by omega))) [0] [] rfl (by simp) (by simp) (by simp) (by repeat' (first | exact trivial | exact .inl rfl | exact .inr rfl | exact .inr ⟨rfl, rfl, rfl, by simp; done⟩ | exact .inr ⟨rfl, by simp; done⟩ | exact .inr ⟨rfl, rfl, by simp; done⟩ | apply And.intro)) (by repeat' (first | exact trivial | rfl | exact (tkC_ren.1 _ _).symm | (simp; done) | apply And.intro)) (by first | exact .inl rfl | (refine .inr ⟨trivial, ?_⟩; first | (intro row h; rcases List.mem_singleton.1 h with rfl; exact nvB _) | (intro row h; cases h; done) | (simp; done)) | (refine .inr ⟨by simp [nvP, nvP.nvPs, nvD, nilS, errno], ?_⟩; first | (intro row h; rcases List.mem_singleton.1 h with rfl; exact nvB _) | (intro row h; cases h; done) | (simp [nvRow, nvD, nvP]; done))) ?_
          simp only [tkC_ren, u64, am, simprocAttr, tys]
          refine ACall.of (tkText (numT t).2 (hB1.le (by omega))) [0] [] rfl (by simp) (by simp) (by simp) (by repeat' (first | exact trivial | exact .inl rfl | exact .inr rfl | exact .inr ⟨rfl, rfl, rfl, by simp; done⟩ | exact .inr ⟨rfl, by simp; done⟩ | exact .inr ⟨rfl, rfl, by simp; done⟩ | apply And.intro)) (by repeat' (first | exact trivial | rfl | exact (tkC_ren.1 _ _).symm | (simp; done) | apply And.intro)) (by first | exact .inl rfl | (refine .inr ⟨trivial, ?_⟩; first | (intro row h; rcases List.mem_singleton.1 h with rfl; exact nvB _) | (intro row h; cases h; done) | (simp; done)) | (refine .inr ⟨by simp [nvP, nvP.nvPs, nvD, nilS, errno], ?_⟩; first | (intro row h; rcases List.mem_singleton.1 h with rfl; exact nvB _) | (intro row h; cases h; done) | (simp [nvRow, nvD, nvP]; done))) ?_
          rcases Nat.lt_or_ge 4 (numT t).1 with hop | hop
          · have hopI : ((4 : Int) < (((numT t).1 : Nat) : Int)) := by omega
            have ht : takeA b = none := takeA_none b fun l r' hrl hb => by
              obtain ⟨g1, g2⟩ := hbw l r' hrl hb
              obtain ⟨h8', hall⟩ := rightA_len hrl
              obtain ⟨g3, _⟩ := hnl l r' hb (by omega)
              have hkl : k < l.length := by omega
              rw [List.drop_eq_getElem_cons hkl, fl_cons, List.append_assoc] at g2
              obtain ⟨q1, q2, _⟩ := ask_bwd l[k] (fl encAsk (l.drop (k + 1)) ++ r') (hall _ (List.getElem_mem hkl))
              rw [g2, q1] at hop
              simp only at hop
              omega
            simp only [tkC_ren, hopI, ht, takeAR, nilS, errno, FinR, evRes, evRVs, evRV, am, simprocAttr, tys]
            exact ⟨_, [], [], rfl, Ent.plain rfl rfl rfl trivial rfl, rfl, rfl⟩
          · have hopI : ¬ ((4 : Int) < (((numT t).1 : Nat) : Int)) := by omega
            have w2 : IntKind.u8.wrap (((numT t).1 : Nat) : Int) = (((UInt8.ofNat (numT t).1).toNat : Nat) : Int) := low8 _ (by omega)
            simp only [tkC_ren, hopI, w2, str, am, simprocAttr, tys]
            refine ACall.of (tkText (textT (numT t).2).2 (hB2.le (by omega))) [0] [] rfl (by simp) (by simp) (by simp) (by repeat' (first | exact trivial | exact .inl rfl | exact .inr rfl | exact .inr ⟨rfl, rfl, rfl, by simp; done⟩ | exact .inr ⟨rfl, by simp; done⟩ | exact .inr ⟨rfl, rfl, by simp; done⟩ | apply And.intro)) (by repeat' (first | exact trivial | rfl | exact (tkC_ren.1 _ _).symm | (simp; done) | apply And.intro)) (by first | exact .inl rfl | (refine .inr ⟨trivial, ?_⟩; first | (intro row h; rcases List.mem_singleton.1 h with rfl; exact nvB _) | (intro row h; cases h; done) | (simp; done)) | (refine .inr ⟨by simp [nvP, nvP.nvPs, nvD, nilS, errno], ?_⟩; first | (intro row h; rcases List.mem_singleton.1 h with rfl; exact nvB _) | (intro row h; cases h; done) | (simp [nvRow, nvD, nvP]; done))) ?_
            have eapp : o.map encA ++ [[DV.lit (.int .u8 (((UInt8.ofNat (numT t).1).toNat : Nat) : Int)), DV.lit (.string ⟨⟨(textT (numT t).2).1⟩⟩), DV.lit (.string ⟨⟨(textT (textT (numT t).2).2).1⟩⟩)]] = (o ++ [(UInt8.ofNat (numT t).1, (textT (numT t).2).1, (textT (textT (numT t).2).2).1, ())]).map encA := by rw [List.map_append]; rfl
            simp only [tkC_ren, str, w1, eapp, am, simprocAttr, tys]
            refine ⟨by omega, ⟨(k + 1, o ++ [(UInt8.ofNat (numT t).1, (textT (numT t).2).1, (textT (textT (numT t).2).2).1, ())], (textT (textT (numT t).2).2).2), by omega, by simp [hok], hB3, ?_, ?_, ?_⟩, [], [0, 3], ⟨rfl, rfl, by simp, (fun i hi => absurd hi (Nat.not_lt_zero _)), ⟨.inr rfl, .inr rfl, .inr rfl, .inr rfl, .inr rfl, trivial⟩, ⟨.inr ⟨by decide, ?_⟩, .inr ⟨by decide, ?_⟩, trivial⟩, rfl, by decide, rfl, (by first | rfl | simp [scRow, tkC_scs])⟩, by show n - (k + 1) < n - k; omega⟩
            · intro x hx
              rcases List.mem_append.1 hx with hx | hx
              · exact hoB x hx
              · simp only [List.mem_singleton] at hx
                subst hx; exact hs2
            · intro r' h
              have e1 := ask_fwd hop h
              have e2 := hfw _ e1
              rw [e2, fl_snoc]
              simp only [List.append_assoc]
            · intro l r' hrl hb
              obtain ⟨g1, g2⟩ := hbw l r' hrl hb
              obtain ⟨h8', hall⟩ := rightA_len hrl
              obtain ⟨g3, _⟩ := hnl l r' hb (by omega)
              have hkl : k < l.length := by omega
              rw [List.drop_eq_getElem_cons hkl, fl_cons, List.append_assoc] at g2
              obtain ⟨q1, q2, q3, q4⟩ := ask_bwd l[k] (fl encAsk (l.drop (k + 1)) ++ r') (hall _ (List.getElem_mem hkl))
              rw [g2, q1]
              simp only [q3, q4]
              refine ⟨?_, trivial⟩
              rw [List.take_succ_eq_append_getElem hkl, ← g1]
              simp
            · exact tkC_row _ _ _ _
            · rfl
        · have hltI : ¬ ((k : Int) < (n : Int)) := by omega
          have hkn : k = n := by omega
          subst hkn
          simp only [hltI, am, simprocAttr, tys]
          refine ACall.of (matchRight o (by omega) (fun x hx => by have := hoB x hx; omega)) [] [1] rfl (by simp) (by simp) (by simp) (by repeat' (first | exact trivial | exact .inl rfl | exact .inr rfl | exact .inr ⟨rfl, rfl, rfl, by simp; done⟩ | exact .inr ⟨rfl, by simp; done⟩ | exact .inr ⟨rfl, rfl, by simp; done⟩ | apply And.intro)) (by repeat' (first | exact trivial | rfl | exact (tkC_ren.1 _ _).symm | (simp; done) | apply And.intro)) (by first | exact .inl rfl | (refine .inr ⟨trivial, ?_⟩; first | (intro row h; rcases List.mem_singleton.1 h with rfl; exact nvB _) | (intro row h; cases h; done) | (simp; done)) | (refine .inr ⟨by simp [nvP, nvP.nvPs, nvD, nilS, errno], ?_⟩; first | (intro row h; rcases List.mem_singleton.1 h with rfl; exact nvB _) | (intro row h; cases h; done) | (simp [nvRow, nvD, nvP]; done))) ?_
          rcases hro : rightA o with _ | _
          · have ht : takeA b = none := takeA_none b fun l r' hrl hb => by
              obtain ⟨g1, g2⟩ := hbw l r' hrl hb
              obtain ⟨h8', _⟩ := rightA_len hrl
              obtain ⟨g3, _⟩ := hnl l r' hb (by omega)
              rw [List.take_of_length_le (by omega)] at g1
              rw [g1, hrl] at hro; cases hro
            simp only [bool, ht, takeAR, nilS, errno, FinR, evRes, evRVs, evRV, am, simprocAttr, tys]
            exact ⟨_, [], [], rfl, Ent.plain rfl rfl rfl trivial rfl, rfl, rfl⟩
          · rcases htt : t with _ | rest
            · have ht : takeA b = none := takeA_none b fun l r' hrl hb => by
                obtain ⟨g1, g2⟩ := hbw l r' hrl hb
                rw [htt] at g2; cases g2
              simp only [bool, am, simprocAttr, tys]
              refine ACall.of (tkLeft none) [0] [] rfl (by simp) (by simp) (by simp) (by repeat' (first | exact trivial | exact .inl rfl | exact .inr rfl | exact .inr ⟨rfl, rfl, rfl, by simp; done⟩ | exact .inr ⟨rfl, by simp; done⟩ | exact .inr ⟨rfl, rfl, by simp; done⟩ | apply And.intro)) (by repeat' (first | exact trivial | rfl | exact (tkC_ren.1 _ _).symm | (simp; done) | apply And.intro)) (by first | exact .inl rfl | (refine .inr ⟨trivial, ?_⟩; first | (intro row h; rcases List.mem_singleton.1 h with rfl; exact nvB _) | (intro row h; cases h; done) | (simp; done)) | (refine .inr ⟨by simp [nvP, nvP.nvPs, nvD, nilS, errno], ?_⟩; first | (intro row h; rcases List.mem_singleton.1 h with rfl; exact nvB _) | (intro row h; cases h; done) | (simp [nvRow, nvD, nvP]; done))) ?_
              simp only [leftT, int, tkC_ren, am, simprocAttr, tys]
              refine ACall.of (tkEnd none) [0] [] rfl (by simp) (by simp) (by simp) (by repeat' (first | exact trivial | exact .inl rfl | exact .inr rfl | exact .inr ⟨rfl, rfl, rfl, by simp; done⟩ | exact .inr ⟨rfl, by simp; done⟩ | exact .inr ⟨rfl, rfl, by simp; done⟩ | apply And.intro)) (by repeat' (first | exact trivial | rfl | exact (tkC_ren.1 _ _).symm | (simp; done) | apply And.intro)) (by first | exact .inl rfl | (refine .inr ⟨trivial, ?_⟩; first | (intro row h; rcases List.mem_singleton.1 h with rfl; exact nvB _) | (intro row h; cases h; done) | (simp; done)) | (refine .inr ⟨by simp [nvP, nvP.nvPs, nvD, nilS, errno], ?_⟩; first | (intro row h; rcases List.mem_singleton.1 h with rfl; exact nvB _) | (intro row h; cases h; done) | (simp [nvRow, nvD, nvP]; done))) ?_
              simp only [endT, ht, takeAR, nilS, errno, FinR, evRes, evRVs, evRV, am, simprocAttr, tys]
              exact ⟨_, [], [], rfl, Ent.plain rfl rfl rfl trivial rfl, rfl, rfl⟩
            · have hbr2 := hfw rest htt
              have hb3 : b = putA o ++ rest := by rw [hbr2]; unfold putA putL; rw [hok]
              have ht : takeA b = some (o, rest) := by rw [hb3]; exact takeA_put o rest hro
              have hlr : rest.length ≤ b.length := htB rest htt
              have w3 : IntKind.i64.wrap ((b.length : Int) - rest.length) = ((b.length - rest.length : Nat) : Int) := by rw [IntWalk.i64_in _ (by omega)]; omega
              have w4 : b.drop (b.length - rest.length) = rest := by rw [hb3]; exact drop_tail _ _
              simp only [bool, am, simprocAttr, tys]
              refine ACall.of (tkLeft (some rest)) [0] [] rfl (by simp) (by simp) (by simp) (by repeat' (first | exact trivial | exact .inl rfl | exact .inr rfl | exact .inr ⟨rfl, rfl, rfl, by simp; done⟩ | exact .inr ⟨rfl, by simp; done⟩ | exact .inr ⟨rfl, rfl, by simp; done⟩ | apply And.intro)) (by repeat' (first | exact trivial | rfl | exact (tkC_ren.1 _ _).symm | (simp; done) | apply And.intro)) (by first | exact .inl rfl | (refine .inr ⟨trivial, ?_⟩; first | (intro row h; rcases List.mem_singleton.1 h with rfl; exact nvB _) | (intro row h; cases h; done) | (simp; done)) | (refine .inr ⟨by simp [nvP, nvP.nvPs, nvD, nilS, errno], ?_⟩; first | (intro row h; rcases List.mem_singleton.1 h with rfl; exact nvB _) | (intro row h; cases h; done) | (simp [nvRow, nvD, nvP]; done))) ?_
              rcases hlz2 : (((rest.length : Nat) : Int) == 0) with _ | _
              case' false =>
                simp only [leftT, int, hlz2, tkC_ren, am, simprocAttr, tys]
              case' true =>
                have hE : endT (some rest) = 0 := by
                  have : rest = [] := List.eq_nil_of_length_eq_zero (by have := eq_of_beq hlz2; omega)
                  rw [this]; rfl
                simp only [leftT, int, hlz2, tkC_ren, am, simprocAttr, tys]
                refine ACall.of (tkEnd (some rest)) [0] [] rfl (by simp) (by simp) (by simp) (by repeat' (first | exact trivial | exact .inl rfl | exact .inr rfl | exact .inr ⟨rfl, rfl, rfl, by simp; done⟩ | exact .inr ⟨rfl, by simp; done⟩ | exact .inr ⟨rfl, rfl, by simp; done⟩ | apply And.intro)) (by repeat' (first | exact trivial | rfl | exact (tkC_ren.1 _ _).symm | (simp; done) | apply And.intro)) (by first | exact .inl rfl | (refine .inr ⟨trivial, ?_⟩; first | (intro row h; rcases List.mem_singleton.1 h with rfl; exact nvB _) | (intro row h; cases h; done) | (simp; done)) | (refine .inr ⟨by simp [nvP, nvP.nvPs, nvD, nilS, errno], ?_⟩; first | (intro row h; rcases List.mem_singleton.1 h with rfl; exact nvB _) | (intro row h; cases h; done) | (simp [nvRow, nvD, nvP]; done))) ?_
                simp only [hE, errno, tkC_ren, am, simprocAttr, tys]
              all_goals
                refine ACall.of (tkLeft (some rest)) [0] [] rfl (by simp) (by simp) (by simp) (by repeat' (first | exact trivial | exact .inl rfl | exact .inr rfl | exact .inr ⟨rfl, rfl, rfl, by simp; done⟩ | exact .inr ⟨rfl, by simp; done⟩ | exact .inr ⟨rfl, rfl, by simp; done⟩ | apply And.intro)) (by repeat' (first | exact trivial | rfl | exact (tkC_ren.1 _ _).symm | (simp; done) | apply And.intro)) (by first | exact .inl rfl | (refine .inr ⟨trivial, ?_⟩; first | (intro row h; rcases List.mem_singleton.1 h with rfl; exact nvB _) | (intro row h; cases h; done) | (simp; done)) | (refine .inr ⟨by simp [nvP, nvP.nvPs, nvD, nilS, errno], ?_⟩; first | (intro row h; rcases List.mem_singleton.1 h with rfl; exact nvB _) | (intro row h; cases h; done) | (simp [nvRow, nvD, nvP]; done))) ?_
                simp only [leftT, int, w3, Int.natCast_nonneg, Int.toNat_natCast, ← List.map_take, ← List.map_drop, List.take_length, w4, tkC_ren, am, simprocAttr, tys]
                refine ⟨by omega, ?_⟩
                refine ACall.of (cloneB rest (by omega)) [] [] rfl (by simp) (by simp) (by simp) (by repeat' (first | exact trivial | exact .inl rfl | exact .inr rfl | exact .inr ⟨rfl, rfl, rfl, by simp; done⟩ | exact .inr ⟨rfl, by simp; done⟩ | exact .inr ⟨rfl, rfl, by simp; done⟩ | apply And.intro)) (by repeat' (first | exact trivial | rfl | exact (tkC_ren.1 _ _).symm | (simp; done) | apply And.intro)) (by first | exact .inl rfl | (refine .inr ⟨trivial, ?_⟩; first | (intro row h; rcases List.mem_singleton.1 h with rfl; exact nvB _) | (intro row h; cases h; done) | (simp; done)) | (refine .inr ⟨by simp [nvP, nvP.nvPs, nvD, nilS, errno], ?_⟩; first | (intro row h; rcases List.mem_singleton.1 h with rfl; exact nvB _) | (intro row h; cases h; done) | (simp [nvRow, nvD, nvP]; done))) ?_
                simp only [ht, takeAR, byts, errno, FinR, evRes, evRVs, evRV, am, simprocAttr, tys]
                exact ⟨_, [1], [], rfl, ⟨rfl, rfl, by simp, (fun i hi => absurd hi (Nat.not_lt_zero _)), trivial, trivial, rfl, by decide, rfl, (by first | rfl | simp [scRow, tkC_scs])⟩, rfl, rfl⟩
end Go.Proofs.Ytflpphgccjlkjaa

set_option linter.unusedSimpArgs false
set_option linter.unusedVariables false
namespace Go.Proofs.Ytflpphgccjlkjaa
open Go Go.AM

theorem lebI_free {a b : Int} {r s : List UInt8} (ha : I64 a) (hb : I64 b) (h : lebI a ++ r = lebI b ++ s) : a = b ∧ r = s := by
  obtain ⟨h1, h2⟩ := leb_prefix_free (fold_lt a ha) (fold_lt b hb) h
  refine ⟨?_, h2⟩
  have := congrArg unfold' h1
  rwa [unfold_fold, unfold_fold] at this
theorem sameO_iff (o p : OpT) : sameO o p = true ↔ o = p := by
  obtain ⟨a, b, ⟨c, d, ⟨⟩⟩, e, ⟨⟩⟩ := o
  obtain ⟨a', b', ⟨c', d', ⟨⟩⟩, e', ⟨⟩⟩ := p
  simp [sameO, ptB]
  intro _
  constructor
  · rintro ⟨⟨h2, h3⟩, h4, h5⟩; exact ⟨h4, ⟨h2, h3⟩, h5⟩
  · rintro ⟨h4, ⟨h2, h3⟩, h5⟩; exact ⟨⟨h2, h3⟩, h4, h5⟩
theorem noL_nil {o : OpT} (h : noL o = true) : o.2.1 = [] := List.length_eq_zero_iff.1 (of_decide_eq_true h)
theorem noA_nil {o : OpT} (h : noA o = true) : o.2.2.2.1 = [] := List.length_eq_zero_iff.1 (of_decide_eq_true h)
theorem putO_inj {o p : OpT} (ho : FitI o) (hp : FitI p) (h1 : rightO o = true) (h2 : rightO p = true) (h : putO o = putO p) : o = p := by
  have hk : o.1 = p.1 := (List.cons.inj h).1
  have ht := (List.cons.inj h).2
  rw [← sameO_iff]
  unfold rightO at h1 h2
  rw [← hk] at h2 ht
  have kk : (o.1 == p.1) = true := by rw [hk]; simp
  by_cases k1 : o.1 = 1
  · rw [if_pos k1] at h1 h2
    rw [if_pos k1, if_pos k1] at ht
    simp only [Bool.and_eq_true] at h1 h2
    have e1 := takeLb_put o.2.1 (lebI o.2.2.1.1 ++ lebI o.2.2.1.2.1) h1.1
    have e2 := takeLb_put p.2.1 (lebI p.2.2.1.1 ++ lebI p.2.2.1.2.1) h2.1
    rw [← List.append_assoc, ht, List.append_assoc, e2] at e1
    simp only [Option.some.injEq, Prod.mk.injEq] at e1
    obtain ⟨g1, g2⟩ := e1
    obtain ⟨g3, g4⟩ := lebI_free hp.p1 ho.p1 g2
    have g5 := (lebI_free (r := []) (s := []) hp.p2 ho.p2 (by rw [List.append_nil, List.append_nil]; exact g4)).1
    unfold sameO ptB
    rw [kk, noA_nil h1.2, noA_nil h2.2, g1, g3, g5]; simp
  · rw [if_neg k1] at h1 h2
    rw [if_neg k1, if_neg k1] at ht
    by_cases k4 : o.1 = 4
    · have k3 : ¬ o.1 = 3 := by rw [k4]; decide
      rw [if_pos k4] at h1 h2
      rw [if_neg k3, if_neg k3, if_pos k4, if_pos k4] at ht
      simp only [Bool.and_eq_true, z1, z2, beq_iff_eq] at h1 h2
      have e1 := takeA_put o.2.2.2.1 [] h1.1
      have e2 := takeA_put p.2.2.2.1 [] h2.1
      rw [ht, e2] at e1
      simp only [Option.some.injEq, Prod.mk.injEq] at e1
      unfold sameO ptB
      rw [kk, noL_nil h1.2.1, noL_nil h2.2.1, e1.1, h1.2.2.1, h1.2.2.2, h2.2.2.1, h2.2.2.2]; simp
    · rw [if_neg k4] at h1 h2
      by_cases k3 : o.1 = 3
      · rw [if_pos k3] at h1 h2
        rw [if_pos k3, if_pos k3] at ht
        simp only [Bool.and_eq_true, z2, beq_iff_eq] at h1 h2
        have g5 := (lebI_free (r := []) (s := []) ho.p1 hp.p1 (by rw [List.append_nil, List.append_nil]; exact ht)).1
        unfold sameO ptB
        rw [kk, noL_nil h1.1, noL_nil h2.1, noA_nil h1.2.1, noA_nil h2.2.1, g5, h1.2.2, h2.2.2]; simp
      · rw [if_neg k3] at h1 h2
        by_cases k2 : o.1 = 2
        · rw [if_pos k2] at h1 h2
          simp only [Bool.and_eq_true, z1, z2, beq_iff_eq] at h1 h2
          unfold sameO ptB
          rw [kk, noL_nil h1.1, noL_nil h2.1, noA_nil h1.2.1, noA_nil h2.2.1, h1.2.2.1, h2.2.2.1, h1.2.2.2, h2.2.2.2]; simp
        · rw [if_neg k2] at h1; cases h1
theorem kind_key {o p : OpT} (ho : FitI o) (hp : FitI p) (h1 : rightO o = true) (h2 : rightO p = true) : ((putO o == putO p) == sameO o p) = true := by
  rw [beq_iff_eq, Bool.eq_iff_iff, beq_iff_eq, sameO_iff]
  exact ⟨putO_inj ho hp h1 h2, fun h => by rw [h]⟩
end Go.Proofs.Ytflpphgccjlkjaa
