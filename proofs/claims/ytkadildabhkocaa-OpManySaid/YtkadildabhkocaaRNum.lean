/- Proved here: what functions of the program compute, and plain laws. No condition. -/
import Derived.Test.YtkadildabhkocaaNum
set_option linter.unusedSimpArgs false
set_option linter.unusedVariables false
namespace Go.Proofs.Ytkadildabhkocaa
open Go Go.AM

theorem takeNum_eq (bs : List UInt8) (i n : Nat) (hn : n < 18446744073709551616) (h : leb n = bs.take i) : takeNum bs = some (n, bs.drop i) := by
  conv => lhs; rw [← List.take_append_drop i bs]
  rw [← h, takeNum_leb n _ hn]

theorem takeNum_ne (bs : List UInt8) (i : Nat) (hlt : i < bs.length) (hp : (bs.take i).all isC = true) (hc : bs[i].toNat < 128) (h : leb (val (bs.take (i + 1)) % 18446744073709551616) ≠ bs.take (i + 1)) : takeNum bs = none := by
  rcases hk : takeNum bs with _ | ⟨m, r⟩
  · rfl
  · exfalso
    obtain ⟨h1, h2⟩ := takeNum_some hk
    have e : bs = bs.take i ++ bs[i] :: bs.drop (i + 1) := by
      conv => lhs; rw [← List.take_append_drop i bs]
      rw [List.drop_eq_getElem_cons hlt]
    have e2 : bs.take (i + 1) = bs.take i ++ [bs[i]] := List.take_succ_eq_append_getElem hlt
    obtain ⟨p, c, g1, g2, g3, g4⟩ := leb_shape m
    have s1 := isC_span (bs.take i) bs[i] (bs.drop (i + 1)) hp hc
    rw [← e] at s1
    have s2 := isC_span p c r g2 g3
    have e3 : p ++ c :: r = bs := by rw [h2, g1]; simp
    rw [e3] at s2
    have f1 : bs.take i = p := s1.1.symm.trans s2.1
    have f2 : bs[i] = c := by
      have := s1.2.symm.trans s2.2
      simp only [List.cons.injEq] at this
      exact this.1
    apply h
    have e4 : bs.take (i + 1) = leb m := by rw [e2, f1, f2, g1]
    rw [e4, val_leb, Nat.mod_eq_of_lt h1]

theorem refFail (t : Tk) : AFun Try.prog 68 [.ptr 0 0] [.box (tkC t)] (.tup []) [.box (tkC none)] := by
  refine AFun.of_walk hP Try.func68 rfl rfl rfl (by simp) rfl ?_
  rcases t with _ | bs
  · simp only [Try.f68, tkC, byts, bool, FinR, evRes, evRVs, evRV, am, simprocAttr, tys]
    exact ⟨_, [], [0], rfl, ⟨rfl, rfl, by simp, (fun i hi => .inr ((by decide : ∀ i, i < 1 → ([0] : List Nat).getD i 0 = i) i hi)), trivial, ⟨.inr ⟨by decide, rfl⟩, trivial⟩, rfl, by decide, rfl, (by first | rfl | simp [scRow, tkC_scs])⟩, rfl, rfl⟩
  · simp only [Try.f68, tkC, byts, bool, FinR, evRes, evRVs, evRV, am, simprocAttr, tys]
    exact ⟨_, [], [0], rfl, ⟨rfl, rfl, by simp, (fun i hi => .inr ((by decide : ∀ i, i < 1 → ([0] : List Nat).getD i 0 = i) i hi)), trivial, ⟨.inr ⟨by decide, rfl⟩, trivial⟩, rfl, by decide, rfl, (by first | rfl | simp [scRow, tkC_scs])⟩, rfl, rfl⟩

theorem refNum (t : Tk) (hl : ∀ bs, t = some bs → bs.length ≤ 100000000000000) : AFun Try.prog 59 [.ptr 0 0] [.box (tkC t)] (u64 (numT t).1) [.box (tkC (numT t).2)] := by
  refine AFun.of_walk hP Try.func59 rfl rfl rfl (by simp) rfl ?_
  rcases t with _ | bs
  · simp only [Try.f59, tkC, byts, bool, u64, numT, am, simprocAttr, tys]
    refine ALoopW.intro 67 1 (ι := Unit) (fun i => [(0, .ptr 0 0), (5, .d (.lit (.int .i64 0)))]) (fun _ => [.box [.d (.lit (.slice none 0 0)), .d (.lit (.bool true))]]) (fun _ => 0) () [] [0] ?_ (fun _ => ?_)
    · exact ⟨rfl, rfl, by simp, (fun i hi => .inr ((by decide : ∀ i, i < 1 → ([0] : List Nat).getD i 0 = i) i hi)), ⟨.inr rfl, .inr rfl, trivial⟩, ⟨.inr ⟨by decide, rfl⟩, trivial⟩, rfl, by decide, rfl, (by first | rfl | simp [scRow, tkC_scs])⟩
    simp only [am, simprocAttr, tys]
    refine ACall.of (refFail none) [0] [] rfl (by simp) (by simp) (by simp) (by repeat' (first | exact trivial | exact .inl rfl | exact .inr rfl | exact .inr ⟨rfl, by simp⟩ | exact .inr ⟨rfl, rfl, by simp⟩ | apply And.intro)) (by repeat' (first | exact trivial | rfl | exact (tkC_ren.1 _ _).symm | (simp; done) | apply And.intro)) (by first | exact .inl rfl | (refine .inr ⟨trivial, ?_⟩; first | (intro row h; rcases List.mem_singleton.1 h with rfl; exact nvB _) | (intro row h; cases h; done) | (simp; done)) | (refine .inr ⟨by simp [nvP, nvP.nvPs, nvD, nilS, errno], ?_⟩; first | (intro row h; rcases List.mem_singleton.1 h with rfl; exact nvB _) | (intro row h; cases h; done) | (simp [nvRow, nvD, nvP]; done))) ?_
    simp only [tkC, bool, FinR, evRes, evRVs, evRV, am, simprocAttr, tys]
    exact ⟨_, [], [0], rfl, ⟨rfl, rfl, by simp, (fun i hi => .inr ((by decide : ∀ i, i < 1 → ([0] : List Nat).getD i 0 = i) i hi)), trivial, ⟨.inr ⟨by decide, rfl⟩, trivial⟩, rfl, by decide, rfl, (by first | rfl | simp [scRow, tkC_scs])⟩, rfl, rfl⟩
  · have hbl := hl bs rfl
    simp only [Try.f59, tkC, byts, bool, u64, am, simprocAttr, tys]
    refine ALoopW.intro 67 1 (ι := { i : Nat // i ≤ 10 ∧ i ≤ bs.length ∧ (bs.take i).all isC = true }) (fun i => [(0, .ptr 0 0), (3, .d (.lit (.int .u64 ((val (bs.take i.1) % 18446744073709551616 : Nat) : Int)))), (4, .d (.lit (.int .u64 ((128 ^ i.1 % 18446744073709551616 : Nat) : Int)))), (5, .d (.lit (.int .i64 i.1)))]) (fun _ => [.box [.d (.sl 1 (bs.map encB)), .d (.lit (.bool false))]]) (fun i => bs.length - i.1) ⟨0, by omega, by omega, by simp⟩ [] [0] ?_ (fun ⟨i, hi9, hi, hall⟩ => ?_)
    · exact ⟨rfl, rfl, by simp, (fun i hi => .inr ((by decide : ∀ i, i < 1 → ([0] : List Nat).getD i 0 = i) i hi)), ⟨.inr rfl, .inr rfl, .inr rfl, .inr rfl, trivial⟩, ⟨.inr ⟨by decide, rfl⟩, trivial⟩, rfl, by decide, rfl, (by first | rfl | simp [scRow, tkC_scs])⟩
    have hil : (bs.take i).length = i := by rw [List.length_take]; omega
    rcases Nat.lt_or_ge i bs.length with hlt | hge
    · have hb : bs[i]? = some bs[i] := List.getElem?_eq_getElem hlt
      have hlt2 : ((i : Int) < bs.length) := by omega
      by_cases h10 : i < 10
      · have h10' : ((i : Int) < 10) := by omega
        have e1 : IntKind.i64.wrap ((i : Int) + 1) = ((i + 1 : Nat) : Int) := by rw [IntWalk.i64_in _ (by omega)]; simp
        have hm : bs[i].toNat % 128 < 128 := Nat.mod_lt _ (by omega)
        have t1 : ((bs[i].toNat : Nat) : Int).tmod 128 = ((bs[i].toNat % 128 : Nat) : Int) := rfl
        have t2 : IntKind.u64.wrap ((bs[i].toNat % 128 : Nat) : Int) = ((bs[i].toNat % 128 : Nat) : Int) := IntWalk.u64_in _ (by omega)
        have t3 : IntKind.u64.wrap (((val (bs.take i) % 18446744073709551616 : Nat) : Int) + IntKind.u64.wrap (((bs[i].toNat % 128 : Nat) : Int) * ((128 ^ i % 18446744073709551616 : Nat) : Int))) = ((val (bs.take (i + 1)) % 18446744073709551616 : Nat) : Int) := by
          rw [List.take_succ_eq_append_getElem hlt, val_snoc, hil, Nat.mul_comm (128 ^ i)]
          rw [IntKind.wrap_u64, IntKind.wrap_u64, ← Int.natCast_mul]
          have e5 : bs[i].toNat % 128 * 128 ^ i % 18446744073709551616 = bs[i].toNat % 128 * (128 ^ i % 18446744073709551616) % 18446744073709551616 := by rw [Nat.mul_mod, Nat.mod_eq_of_lt (show bs[i].toNat % 128 < 18446744073709551616 by omega)]
          generalize bs[i].toNat % 128 * 128 ^ i = A at *
          generalize bs[i].toNat % 128 * (128 ^ i % 18446744073709551616) = C at *
          omega
        have t4 : IntKind.u64.wrap (((128 ^ i % 18446744073709551616 : Nat) : Int) * 128) = ((128 ^ (i + 1) % 18446744073709551616 : Nat) : Int) := by
          rw [IntKind.wrap_u64, Nat.pow_succ]
          omega
        by_cases hc : bs[i].toNat < 128
        · have hcI : ((bs[i].toNat : Int) < 128) := by omega
          have hle : ((i + 1 : Nat) : Int) ≤ bs.length := by omega
          have hml : val (bs.take (i + 1)) % 18446744073709551616 < 18446744073709551616 := Nat.mod_lt _ (by omega)
          simp only [hb, hlt2, encB, h10', hcI, t1, t2, t3, t4, Int.natCast_nonneg, am, simprocAttr, tys]
          refine ACallD.of (refPut [] (val (bs.take (i + 1)) % 18446744073709551616) (by simp) hml) (by kernel_rfl) [] [] rfl (by simp) (by simp) (by simp) (by simp) (by repeat' (first | exact trivial | exact .inl rfl | exact .inr rfl | exact .inr ⟨rfl, by simp⟩ | exact .inr ⟨rfl, rfl, by simp⟩ | apply And.intro)) (by repeat' (first | exact trivial | rfl | exact (tkC_ren.1 _ _).symm | (simp; done) | apply And.intro)) (by first | exact .inl rfl | (refine .inr ⟨trivial, ?_⟩; first | (intro row h; rcases List.mem_singleton.1 h with rfl; exact nvB _) | (intro row h; cases h; done) | (simp; done)) | (refine .inr ⟨by simp [nvP, nvP.nvPs, nvD, nilS, errno], ?_⟩; first | (intro row h; rcases List.mem_singleton.1 h with rfl; exact nvB _) | (intro row h; cases h; done) | (simp [nvRow, nvD, nvP]; done))) rfl rfl rfl rfl ?_
          simp only [e1, hle, ← List.map_take, bl_toList, strOf_encB, Int.natCast_nonneg, Int.toNat_natCast, List.drop_zero, am, simprocAttr, tys]
          refine ⟨by kernel_rfl, ?_⟩
          rcases heq : (leb (val (bs.take (i + 1)) % 18446744073709551616) == bs.take (i + 1)) with _ | _
          · have ht := takeNum_ne bs i hlt hall hc (by rw [beq_eq_false_iff_ne] at heq; exact heq)
            simp only [am, simprocAttr, tys]
            refine ACall.of (refFail (some bs)) [0] [] rfl (by simp) (by simp) (by simp) (by repeat' (first | exact trivial | exact .inl rfl | exact .inr rfl | exact .inr ⟨rfl, by simp⟩ | exact .inr ⟨rfl, rfl, by simp⟩ | apply And.intro)) (by repeat' (first | exact trivial | rfl | exact (tkC_ren.1 _ _).symm | (simp; done) | apply And.intro)) (by first | exact .inl rfl | (refine .inr ⟨trivial, ?_⟩; first | (intro row h; rcases List.mem_singleton.1 h with rfl; exact nvB _) | (intro row h; cases h; done) | (simp; done)) | (refine .inr ⟨by simp [nvP, nvP.nvPs, nvD, nilS, errno], ?_⟩; first | (intro row h; rcases List.mem_singleton.1 h with rfl; exact nvB _) | (intro row h; cases h; done) | (simp [nvRow, nvD, nvP]; done))) ?_
            simp only [ht, numT, tkC, bool, FinR, evRes, evRVs, evRV, am, simprocAttr, tys]
            exact ⟨_, [], [0], rfl, ⟨rfl, rfl, by simp, (fun i hi => .inr ((by decide : ∀ i, i < 1 → ([0] : List Nat).getD i 0 = i) i hi)), trivial, ⟨.inr ⟨by decide, rfl⟩, trivial⟩, rfl, by decide, rfl, (by first | rfl | simp [scRow, tkC_scs])⟩, rfl, rfl⟩
          · have ht := takeNum_eq bs (i + 1) _ hml (eq_of_beq heq)
            simp only [e1, ht, numT, tkC, byts, bool, ← List.map_take, ← List.map_drop, List.take_length, FinR, evRes, evRVs, evRV, am, simprocAttr, tys]
            exact ⟨by omega, ⟨_, [], [0], rfl, ⟨rfl, rfl, by simp, (fun i hi => .inr ((by decide : ∀ i, i < 1 → ([0] : List Nat).getD i 0 = i) i hi)), trivial, ⟨.inr ⟨by decide, rfl⟩, trivial⟩, rfl, by decide, rfl, (by first | rfl | simp [scRow, tkC_scs])⟩, rfl, rfl⟩⟩
        · have hcI : ¬ ((bs[i].toNat : Int) < 128) := by omega
          simp only [hb, hlt2, encB, h10', hcI, t1, t2, t3, t4, e1, Int.natCast_nonneg, am, simprocAttr, tys]
          refine ⟨⟨i + 1, by omega, by omega, ?_⟩, [], [0], ⟨rfl, rfl, by simp, (fun i hi => .inr ((by decide : ∀ i, i < 1 → ([0] : List Nat).getD i 0 = i) i hi)), ⟨.inr rfl, .inr rfl, .inr rfl, .inr rfl, trivial⟩, ⟨.inr ⟨by decide, rfl⟩, trivial⟩, rfl, by decide, rfl, (by first | rfl | simp [scRow, tkC_scs])⟩, by show bs.length - (i + 1) < bs.length - i; omega⟩
          rw [List.take_succ_eq_append_getElem hlt]
          simp only [List.all_append, hall, List.all_cons, List.all_nil, isC, Bool.and_true, Bool.true_and, decide_eq_true_eq]; omega
      · have h10' : ¬ ((i : Int) < 10) := by omega
        have ht : takeNum bs = none := by
          have := takeNum_long (bs.take i) (bs.drop i) hall (by omega)
          rwa [List.take_append_drop] at this
        simp only [hlt2, h10', am, simprocAttr, tys]
        refine ACall.of (refFail (some bs)) [0] [] rfl (by simp) (by simp) (by simp) (by repeat' (first | exact trivial | exact .inl rfl | exact .inr rfl | exact .inr ⟨rfl, by simp⟩ | exact .inr ⟨rfl, rfl, by simp⟩ | apply And.intro)) (by repeat' (first | exact trivial | rfl | exact (tkC_ren.1 _ _).symm | (simp; done) | apply And.intro)) (by first | exact .inl rfl | (refine .inr ⟨trivial, ?_⟩; first | (intro row h; rcases List.mem_singleton.1 h with rfl; exact nvB _) | (intro row h; cases h; done) | (simp; done)) | (refine .inr ⟨by simp [nvP, nvP.nvPs, nvD, nilS, errno], ?_⟩; first | (intro row h; rcases List.mem_singleton.1 h with rfl; exact nvB _) | (intro row h; cases h; done) | (simp [nvRow, nvD, nvP]; done))) ?_
        simp only [ht, numT, tkC, bool, FinR, evRes, evRVs, evRV, am, simprocAttr, tys]
        exact ⟨_, [], [0], rfl, ⟨rfl, rfl, by simp, (fun i hi => .inr ((by decide : ∀ i, i < 1 → ([0] : List Nat).getD i 0 = i) i hi)), trivial, ⟨.inr ⟨by decide, rfl⟩, trivial⟩, rfl, by decide, rfl, (by first | rfl | simp [scRow, tkC_scs])⟩, rfl, rfl⟩
    · have hlt2 : ¬ ((i : Int) < bs.length) := by omega
      have hi' : i = bs.length := by omega
      have ht : takeNum bs = none := takeNum_all bs (by rw [hi', List.take_length] at hall; exact hall)
      simp only [hlt2, am, simprocAttr, tys]
      refine ACall.of (refFail (some bs)) [0] [] rfl (by simp) (by simp) (by simp) (by repeat' (first | exact trivial | exact .inl rfl | exact .inr rfl | exact .inr ⟨rfl, by simp⟩ | exact .inr ⟨rfl, rfl, by simp⟩ | apply And.intro)) (by repeat' (first | exact trivial | rfl | exact (tkC_ren.1 _ _).symm | (simp; done) | apply And.intro)) (by first | exact .inl rfl | (refine .inr ⟨trivial, ?_⟩; first | (intro row h; rcases List.mem_singleton.1 h with rfl; exact nvB _) | (intro row h; cases h; done) | (simp; done)) | (refine .inr ⟨by simp [nvP, nvP.nvPs, nvD, nilS, errno], ?_⟩; first | (intro row h; rcases List.mem_singleton.1 h with rfl; exact nvB _) | (intro row h; cases h; done) | (simp [nvRow, nvD, nvP]; done))) ?_
      simp only [ht, numT, tkC, bool, FinR, evRes, evRVs, evRV, am, simprocAttr, tys]
      exact ⟨_, [], [0], rfl, ⟨rfl, rfl, by simp, (fun i hi => .inr ((by decide : ∀ i, i < 1 → ([0] : List Nat).getD i 0 = i) i hi)), trivial, ⟨.inr ⟨by decide, rfl⟩, trivial⟩, rfl, by decide, rfl, (by first | rfl | simp [scRow, tkC_scs])⟩, rfl, rfl⟩
end Go.Proofs.Ytkadildabhkocaa
