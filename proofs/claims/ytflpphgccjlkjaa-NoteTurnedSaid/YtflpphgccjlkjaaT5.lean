/- Proved here: what the functions of the program compute. No condition. -/
import Derived.Test.YtflpphgccjlkjaaT4
import Derived.Test.YtflpphgccjlkjaaT3
set_option linter.all false
set_option linter.unusedSimpArgs false
set_option linter.unusedVariables false
set_option linter.unusedSimpArgs false
set_option linter.unusedVariables false
namespace Go.Proofs.Ytflpphgccjlkjaa
open Go Go.AM

theorem tkInt (t : Tk) (hl : ∀ bs, t = some bs → bs.length ≤ 100000000000000) : AFun Try.prog 99 [.ptr 0 0] [.box (tkC t)] (int (unfold' (numT t).1)) [.box (tkC (numT t).2)] := by
  refine AFun.of_walk hP Try.func99 rfl rfl rfl (by simp) rfl ?_
  obtain ⟨hn, hr⟩ := numT_lt t hl
  simp only [Try.f99, am, simprocAttr, tys]
  refine ACall.of (tkNum t hl) [0] [] rfl (by simp) (by simp) (by simp) (by repeat' (first | exact trivial | exact .inl rfl | exact .inr rfl | exact .inr ⟨rfl, rfl, rfl, by simp; done⟩ | exact .inr ⟨rfl, by simp; done⟩ | exact .inr ⟨rfl, rfl, by simp; done⟩ | apply And.intro)) (by repeat' (first | exact trivial | rfl | exact (tkC_ren.1 _ _).symm | (simp; done) | apply And.intro)) (by first | exact .inl rfl | (refine .inr ⟨trivial, ?_⟩; first | (intro row h; rcases List.mem_singleton.1 h with rfl; exact nvB _) | (intro row h; cases h; done) | (simp; done)) | (refine .inr ⟨by simp [nvP, nvP.nvPs, nvD, nilS, errno], ?_⟩; first | (intro row h; rcases List.mem_singleton.1 h with rfl; exact nvB _) | (intro row h; cases h; done) | (simp [nvRow, nvD, nvP]; done))) ?_
  simp only [tkC_ren, u64, am, simprocAttr, tys]
  refine ACall.of (octsOpen (numT t).1 hn) [] [] rfl (by simp) (by simp) (by simp) (by repeat' (first | exact trivial | exact .inl rfl | exact .inr rfl | exact .inr ⟨rfl, rfl, rfl, by simp; done⟩ | exact .inr ⟨rfl, by simp; done⟩ | exact .inr ⟨rfl, rfl, by simp; done⟩ | apply And.intro)) (by repeat' (first | exact trivial | rfl | exact (tkC_ren.1 _ _).symm | (simp; done) | apply And.intro)) (by first | exact .inl rfl | (refine .inr ⟨trivial, ?_⟩; first | (intro row h; rcases List.mem_singleton.1 h with rfl; exact nvB _) | (intro row h; cases h; done) | (simp; done)) | (refine .inr ⟨by simp [nvP, nvP.nvPs, nvD, nilS, errno], ?_⟩; first | (intro row h; rcases List.mem_singleton.1 h with rfl; exact nvB _) | (intro row h; cases h; done) | (simp [nvRow, nvD, nvP]; done))) ?_
  simp only [int, FinR, evRes, evRVs, evRV, am, simprocAttr, tys]
  rcases (numT t).2 with _ | r
  · exact ⟨_, [], [0], rfl, ⟨rfl, rfl, by simp, (fun i hi => .inr ((by decide : ∀ i, i < 1 → ([0] : List Nat).getD i 0 = i) i hi)), trivial, ⟨.inr ⟨by decide, rfl⟩, trivial⟩, rfl, by decide, rfl, (by first | rfl | simp [scRow, tkC_scs])⟩, rfl, rfl⟩
  · exact ⟨_, [], [0], rfl, ⟨rfl, rfl, by simp, (fun i hi => .inr ((by decide : ∀ i, i < 1 → ([0] : List Nat).getD i 0 = i) i hi)), trivial, ⟨.inr ⟨by decide, rfl⟩, trivial⟩, rfl, by decide, rfl, (by first | rfl | simp [scRow, tkC_scs])⟩, rfl, rfl⟩

theorem refInt (t : Tk) (hl : ∀ bs, t = some bs → bs.length ≤ 100000000000000) : AFun Try.prog 69 [.ptr 0 0] [.box (tkC t)] (int (unfold' (numT t).1)) [.box (tkC (numT t).2)] := by
  refine AFun.of_walk hP Try.func69 rfl rfl rfl (by simp) rfl ?_
  obtain ⟨hn, hr⟩ := numT_lt t hl
  simp only [Try.f69, am, simprocAttr, tys]
  refine ACall.of (refNum t hl) [0] [] rfl (by simp) (by simp) (by simp) (by repeat' (first | exact trivial | exact .inl rfl | exact .inr rfl | exact .inr ⟨rfl, rfl, rfl, by simp; done⟩ | exact .inr ⟨rfl, by simp; done⟩ | exact .inr ⟨rfl, rfl, by simp; done⟩ | apply And.intro)) (by repeat' (first | exact trivial | rfl | exact (tkC_ren.1 _ _).symm | (simp; done) | apply And.intro)) (by first | exact .inl rfl | (refine .inr ⟨trivial, ?_⟩; first | (intro row h; rcases List.mem_singleton.1 h with rfl; exact nvB _) | (intro row h; cases h; done) | (simp; done)) | (refine .inr ⟨by simp [nvP, nvP.nvPs, nvD, nilS, errno], ?_⟩; first | (intro row h; rcases List.mem_singleton.1 h with rfl; exact nvB _) | (intro row h; cases h; done) | (simp [nvRow, nvD, nvP]; done))) ?_
  simp only [tkC_ren, u64, am, simprocAttr, tys]
  refine ACall.of (refOpen (numT t).1 hn) [] [] rfl (by simp) (by simp) (by simp) (by repeat' (first | exact trivial | exact .inl rfl | exact .inr rfl | exact .inr ⟨rfl, rfl, rfl, by simp; done⟩ | exact .inr ⟨rfl, by simp; done⟩ | exact .inr ⟨rfl, rfl, by simp; done⟩ | apply And.intro)) (by repeat' (first | exact trivial | rfl | exact (tkC_ren.1 _ _).symm | (simp; done) | apply And.intro)) (by first | exact .inl rfl | (refine .inr ⟨trivial, ?_⟩; first | (intro row h; rcases List.mem_singleton.1 h with rfl; exact nvB _) | (intro row h; cases h; done) | (simp; done)) | (refine .inr ⟨by simp [nvP, nvP.nvPs, nvD, nilS, errno], ?_⟩; first | (intro row h; rcases List.mem_singleton.1 h with rfl; exact nvB _) | (intro row h; cases h; done) | (simp [nvRow, nvD, nvP]; done))) ?_
  simp only [int, FinR, evRes, evRVs, evRV, am, simprocAttr, tys]
  rcases (numT t).2 with _ | r
  · exact ⟨_, [], [0], rfl, ⟨rfl, rfl, by simp, (fun i hi => .inr ((by decide : ∀ i, i < 1 → ([0] : List Nat).getD i 0 = i) i hi)), trivial, ⟨.inr ⟨by decide, rfl⟩, trivial⟩, rfl, by decide, rfl, (by first | rfl | simp [scRow, tkC_scs])⟩, rfl, rfl⟩
  · exact ⟨_, [], [0], rfl, ⟨rfl, rfl, by simp, (fun i hi => .inr ((by decide : ∀ i, i < 1 → ([0] : List Nat).getD i 0 = i) i hi)), trivial, ⟨.inr ⟨by decide, rfl⟩, trivial⟩, rfl, by decide, rfl, (by first | rfl | simp [scRow, tkC_scs])⟩, rfl, rfl⟩

end Go.Proofs.Ytflpphgccjlkjaa

set_option linter.unusedSimpArgs false
set_option linter.unusedVariables false
namespace Go.Proofs.Ytflpphgccjlkjaa
open Go Go.AM

abbrev bx5 (c0 c1 c4 : DV) (x y : Int) : Row := .box [.d c0, .d c1, int x, int y, .d c4]

set_option maxRecDepth 8000 in
theorem ints1Y (c0 c1 c4 : DV) (x y : Int) (b : List UInt8) (hl : b.length ≤ 100000000) (u : Nat) (r : List UInt8) (hk : takeNum b = some (u, r)) :
    AFun Try.prog 87 [byts b, .own 1] [bx5 c0 c1 c4 x y, .box [.ptr 0 2]] (.tup [byts r, bool true]) [bx5 c0 c1 c4 (unfold' u) y, .box [.ptr 0 2]] := by
  refine AFun.of_walk hP Try.func87 rfl rfl rfl (by simp) rfl ?_
  obtain ⟨hu64, hbr⟩ := takeNum_some hk
  have hrl : r.length ≤ b.length := by rw [hbr]; simp
  simp only [Try.f87, bx5, int, am, simprocAttr, tys]
  refine ACall.of (octsNew b (by omega)) [] [] rfl (by simp) (by simp) (by simp) (by repeat' (first | exact trivial | exact .inl rfl | exact .inr rfl | exact .inr ⟨rfl, rfl, rfl, by simp; done⟩ | exact .inr ⟨rfl, by simp; done⟩ | exact .inr ⟨rfl, rfl, by simp; done⟩ | apply And.intro)) (by repeat' (first | exact trivial | rfl | exact (tkC_ren.1 _ _).symm | (simp; done) | apply And.intro)) (by first | exact .inl rfl | (refine .inr ⟨trivial, ?_⟩; first | (intro row h; rcases List.mem_singleton.1 h with rfl; exact nvB _) | (intro row h; cases h; done) | (simp; done)) | (refine .inr ⟨by simp [nvP, nvP.nvPs, nvD, nilS, errno], ?_⟩; first | (intro row h; rcases List.mem_singleton.1 h with rfl; exact nvB _) | (intro row h; cases h; done) | (simp [nvRow, nvD, nvP]; done))) ?_
  simp only [tkC_ren, am, simprocAttr, tys]
  refine ALoopW.intro 41 2 (ι := { z : Nat × Int × List UInt8 // z = (0, x, b) ∨ z = (1, unfold' u, r) }) (fun z => [(0, byts b), (6, .ptr 2 0), (11, .own 1), (12, int 1), (13, int z.1.1)])
    (fun z => [.box [.d c0, .d c1, int z.1.2.1, int y, .d c4], .box [.ptr 0 2], .box (tkC (some z.1.2.2))]) (fun z => 1 - z.1.1) ⟨(0, x, b), .inl rfl⟩ [] [0, 1, 2] ?_ (fun ⟨⟨k, v, t⟩, hz⟩ => ?_)
  · exact ⟨rfl, rfl, by simp, (fun i hi => .inr ((by decide : ∀ i, i < 2 → ([0, 1, 2] : List Nat).getD i 0 = i) i hi)), ⟨.inr rfl, .inr rfl, .inr rfl, .inr rfl, .inr rfl, trivial⟩, ⟨.inr ⟨by decide, rfl⟩, .inr ⟨by decide, rfl⟩, .inr ⟨by decide, rfl⟩, trivial⟩, rfl, by decide, rfl, (by first | rfl | simp [scRow, tkC_scs])⟩
  rcases hz with hz | hz
  · simp only [Prod.mk.injEq] at hz
    obtain ⟨rfl, rfl, rfl⟩ := hz
    simp only [int, am, simprocAttr, tys]
    have hb0 : (((t.length : Nat) : Int) == 0) = false := by
      rw [beq_eq_false_iff_ne]
      have : t ≠ [] := fun e => by rw [e] at hk; cases hk
      have := List.length_pos_iff.2 this
      omega
    have w1 : IntKind.i64.wrap ((0 : Int) + 1) = 1 := by decide
    refine ACall.of (tkLeft (some t)) [2] [] rfl (by simp) (by simp) (by simp) (by repeat' (first | exact trivial | exact .inl rfl | exact .inr rfl | exact .inr ⟨rfl, rfl, rfl, by simp; done⟩ | exact .inr ⟨rfl, by simp; done⟩ | exact .inr ⟨rfl, rfl, by simp; done⟩ | apply And.intro)) (by repeat' (first | exact trivial | rfl | exact (tkC_ren.1 _ _).symm | (simp; done) | apply And.intro)) (by first | exact .inl rfl | (refine .inr ⟨trivial, ?_⟩; first | (intro row h; rcases List.mem_singleton.1 h with rfl; exact nvB _) | (intro row h; cases h; done) | (simp; done)) | (refine .inr ⟨by simp [nvP, nvP.nvPs, nvD, nilS, errno], ?_⟩; first | (intro row h; rcases List.mem_singleton.1 h with rfl; exact nvB _) | (intro row h; cases h; done) | (simp [nvRow, nvD, nvP]; done))) ?_
    simp only [leftT, int, hb0, tkC_ren, am, simprocAttr, tys]
    refine ACall.of (tkInt (some t) (by intro bs h; cases h; omega)) [2] [] rfl (by simp) (by simp) (by simp) (by repeat' (first | exact trivial | exact .inl rfl | exact .inr rfl | exact .inr ⟨rfl, rfl, rfl, by simp; done⟩ | exact .inr ⟨rfl, by simp; done⟩ | exact .inr ⟨rfl, rfl, by simp; done⟩ | apply And.intro)) (by repeat' (first | exact trivial | rfl | exact (tkC_ren.1 _ _).symm | (simp; done) | apply And.intro)) (by first | exact .inl rfl | (refine .inr ⟨trivial, ?_⟩; first | (intro row h; rcases List.mem_singleton.1 h with rfl; exact nvB _) | (intro row h; cases h; done) | (simp; done)) | (refine .inr ⟨by simp [nvP, nvP.nvPs, nvD, nilS, errno], ?_⟩; first | (intro row h; rcases List.mem_singleton.1 h with rfl; exact nvB _) | (intro row h; cases h; done) | (simp [nvRow, nvD, nvP]; done))) ?_
    simp only [numT, hk, int, w1, tkC_ren, am, simprocAttr, tys]
    exact ⟨⟨(1, unfold' u, r), .inr rfl⟩, [], [0, 1, 2], ⟨rfl, rfl, by simp, (fun i hi => .inr ((by decide : ∀ i, i < 2 → ([0, 1, 2] : List Nat).getD i 0 = i) i hi)), ⟨.inr rfl, .inr rfl, .inr rfl, .inr rfl, .inr rfl, trivial⟩, ⟨.inr ⟨by decide, rfl⟩, .inr ⟨by decide, rfl⟩, .inr ⟨by decide, rfl⟩, trivial⟩, rfl, by decide, rfl, (by first | rfl | simp [scRow, tkC_scs])⟩, by show 1 - 1 < 1 - 0; omega⟩
  · simp only [Prod.mk.injEq] at hz
    obtain ⟨rfl, rfl, rfl⟩ := hz
    simp only [int, am, simprocAttr, tys]
    have w3 : IntKind.i64.wrap ((b.length : Int) - t.length) = ((b.length - t.length : Nat) : Int) := by rw [IntWalk.i64_in _ (by omega)]; omega
    have w4 : b.drop (b.length - t.length) = t := by rw [hbr]; exact drop_tail _ _
    refine ACall.of (tkLeft (some t)) [2] [] rfl (by simp) (by simp) (by simp) (by repeat' (first | exact trivial | exact .inl rfl | exact .inr rfl | exact .inr ⟨rfl, rfl, rfl, by simp; done⟩ | exact .inr ⟨rfl, by simp; done⟩ | exact .inr ⟨rfl, rfl, by simp; done⟩ | apply And.intro)) (by repeat' (first | exact trivial | rfl | exact (tkC_ren.1 _ _).symm | (simp; done) | apply And.intro)) (by first | exact .inl rfl | (refine .inr ⟨trivial, ?_⟩; first | (intro row h; rcases List.mem_singleton.1 h with rfl; exact nvB _) | (intro row h; cases h; done) | (simp; done)) | (refine .inr ⟨by simp [nvP, nvP.nvPs, nvD, nilS, errno], ?_⟩; first | (intro row h; rcases List.mem_singleton.1 h with rfl; exact nvB _) | (intro row h; cases h; done) | (simp [nvRow, nvD, nvP]; done))) ?_
    rcases hlz : (((t.length : Nat) : Int) == 0) with _ | _
    case' false =>
      simp only [leftT, int, hlz, byts, tkC_ren, am, simprocAttr, tys]
    case' true =>
      have hE : endT (some t) = 0 := by
        have : t = [] := List.eq_nil_of_length_eq_zero (by have := eq_of_beq hlz; omega)
        rw [this]; rfl
      simp only [leftT, int, hlz, tkC_ren, am, simprocAttr, tys]
      refine ACall.of (tkEnd (some t)) [2] [] rfl (by simp) (by simp) (by simp) (by repeat' (first | exact trivial | exact .inl rfl | exact .inr rfl | exact .inr ⟨rfl, rfl, rfl, by simp; done⟩ | exact .inr ⟨rfl, by simp; done⟩ | exact .inr ⟨rfl, rfl, by simp; done⟩ | apply And.intro)) (by repeat' (first | exact trivial | rfl | exact (tkC_ren.1 _ _).symm | (simp; done) | apply And.intro)) (by first | exact .inl rfl | (refine .inr ⟨trivial, ?_⟩; first | (intro row h; rcases List.mem_singleton.1 h with rfl; exact nvB _) | (intro row h; cases h; done) | (simp; done)) | (refine .inr ⟨by simp [nvP, nvP.nvPs, nvD, nilS, errno], ?_⟩; first | (intro row h; rcases List.mem_singleton.1 h with rfl; exact nvB _) | (intro row h; cases h; done) | (simp [nvRow, nvD, nvP]; done))) ?_
      simp only [hE, errno, byts, tkC_ren, am, simprocAttr, tys]
    all_goals
      refine ACall.of (tkLeft (some t)) [2] [] rfl (by simp) (by simp) (by simp) (by repeat' (first | exact trivial | exact .inl rfl | exact .inr rfl | exact .inr ⟨rfl, rfl, rfl, by simp; done⟩ | exact .inr ⟨rfl, by simp; done⟩ | exact .inr ⟨rfl, rfl, by simp; done⟩ | apply And.intro)) (by repeat' (first | exact trivial | rfl | exact (tkC_ren.1 _ _).symm | (simp; done) | apply And.intro)) (by first | exact .inl rfl | (refine .inr ⟨trivial, ?_⟩; first | (intro row h; rcases List.mem_singleton.1 h with rfl; exact nvB _) | (intro row h; cases h; done) | (simp; done)) | (refine .inr ⟨by simp [nvP, nvP.nvPs, nvD, nilS, errno], ?_⟩; first | (intro row h; rcases List.mem_singleton.1 h with rfl; exact nvB _) | (intro row h; cases h; done) | (simp [nvRow, nvD, nvP]; done))) ?_
      simp only [leftT, int, byts, w3, Int.natCast_nonneg, Int.toNat_natCast, ← List.map_take, ← List.map_drop, List.take_length, w4, tkC_ren, am, simprocAttr, tys]
      refine ⟨by omega, ?_⟩
      refine ACall.of (cloneB t (by omega)) [] [] rfl (by simp) (by simp) (by simp) (by repeat' (first | exact trivial | exact .inl rfl | exact .inr rfl | exact .inr ⟨rfl, rfl, rfl, by simp; done⟩ | exact .inr ⟨rfl, by simp; done⟩ | exact .inr ⟨rfl, rfl, by simp; done⟩ | apply And.intro)) (by repeat' (first | exact trivial | rfl | exact (tkC_ren.1 _ _).symm | (simp; done) | apply And.intro)) (by first | exact .inl rfl | (refine .inr ⟨trivial, ?_⟩; first | (intro row h; rcases List.mem_singleton.1 h with rfl; exact nvB _) | (intro row h; cases h; done) | (simp; done)) | (refine .inr ⟨by simp [nvP, nvP.nvPs, nvD, nilS, errno], ?_⟩; first | (intro row h; rcases List.mem_singleton.1 h with rfl; exact nvB _) | (intro row h; cases h; done) | (simp [nvRow, nvD, nvP]; done))) ?_
      simp only [bool, byts, FinR, evRes, evRVs, evRV, am, simprocAttr, tys]
      exact ⟨_, [], [0, 1], rfl, ⟨rfl, rfl, by simp, (fun i hi => .inr ((by decide : ∀ i, i < 2 → ([0, 1] : List Nat).getD i 0 = i) i hi)), trivial, ⟨.inr ⟨by decide, rfl⟩, .inr ⟨by decide, rfl⟩, trivial⟩, rfl, by decide, rfl, (by first | rfl | simp [scRow, tkC_scs])⟩, rfl, rfl⟩

set_option maxRecDepth 8000 in
theorem ints1E (c0 c1 c4 : DV) (x y : Int) (b : List UInt8) (hl : b.length ≤ 100000000) (h0 : b = []) :
    AFun Try.prog 87 [byts b, .own 1] [bx5 c0 c1 c4 x y, .box [.ptr 0 2]] (.tup [nilS, bool false]) [bx5 c0 c1 c4 (x) (y), .box [.ptr 0 2]] := by
  subst h0
  refine AFun.of_walk hP Try.func87 rfl rfl rfl (by simp) rfl ?_
  simp only [Try.f87, bx5, int, am, simprocAttr, tys]
  refine ACall.of (octsNew [] (by omega)) [] [] rfl (by simp) (by simp) (by simp) (by repeat' (first | exact trivial | exact .inl rfl | exact .inr rfl | exact .inr ⟨rfl, rfl, rfl, by simp; done⟩ | exact .inr ⟨rfl, by simp; done⟩ | exact .inr ⟨rfl, rfl, by simp; done⟩ | apply And.intro)) (by repeat' (first | exact trivial | rfl | exact (tkC_ren.1 _ _).symm | (simp; done) | apply And.intro)) (by first | exact .inl rfl | (refine .inr ⟨trivial, ?_⟩; first | (intro row h; rcases List.mem_singleton.1 h with rfl; exact nvB _) | (intro row h; cases h; done) | (simp; done)) | (refine .inr ⟨by simp [nvP, nvP.nvPs, nvD, nilS, errno], ?_⟩; first | (intro row h; rcases List.mem_singleton.1 h with rfl; exact nvB _) | (intro row h; cases h; done) | (simp [nvRow, nvD, nvP]; done))) ?_
  simp only [tkC_ren, am, simprocAttr, tys]
  refine ALoopW.intro 41 2 (ι := { z : Nat × Int × Int × Tk // z = (0, x, y, some []) }) (fun z => [(0, byts []), (6, .ptr 2 0), (11, .own 1), (12, int 1), (13, int z.1.1)])
    (fun z => [.box [.d c0, .d c1, int z.1.2.1, int z.1.2.2.1, .d c4], .box [.ptr 0 2], .box (tkC z.1.2.2.2)]) (fun z => 1 - z.1.1) ⟨(0, x, y, some []), rfl⟩ [] [0, 1, 2] ?_ (fun ⟨⟨k, v, w, t⟩, hz⟩ => ?_)
  · exact ⟨rfl, rfl, by simp, (fun i hi => .inr ((by decide : ∀ i, i < 2 → ([0, 1, 2] : List Nat).getD i 0 = i) i hi)), ⟨.inr rfl, .inr rfl, .inr rfl, .inr rfl, .inr rfl, trivial⟩, ⟨.inr ⟨by decide, rfl⟩, .inr ⟨by decide, rfl⟩, .inr ⟨by decide, rfl⟩, trivial⟩, rfl, by decide, rfl, (by first | rfl | simp [scRow, tkC_scs])⟩
  · simp only [Prod.mk.injEq] at hz
    obtain ⟨rfl, rfl, rfl, rfl⟩ := hz
    simp only [int, am, simprocAttr, tys]
    refine ACall.of (tkLeft (some [])) [2] [] rfl (by simp) (by simp) (by simp) (by repeat' (first | exact trivial | exact .inl rfl | exact .inr rfl | exact .inr ⟨rfl, rfl, rfl, by simp; done⟩ | exact .inr ⟨rfl, by simp; done⟩ | exact .inr ⟨rfl, rfl, by simp; done⟩ | apply And.intro)) (by repeat' (first | exact trivial | rfl | exact (tkC_ren.1 _ _).symm | (simp; done) | apply And.intro)) (by first | exact .inl rfl | (refine .inr ⟨trivial, ?_⟩; first | (intro row h; rcases List.mem_singleton.1 h with rfl; exact nvB _) | (intro row h; cases h; done) | (simp; done)) | (refine .inr ⟨by simp [nvP, nvP.nvPs, nvD, nilS, errno], ?_⟩; first | (intro row h; rcases List.mem_singleton.1 h with rfl; exact nvB _) | (intro row h; cases h; done) | (simp [nvRow, nvD, nvP]; done))) ?_
    simp only [leftT, int, List.length_nil, nilS, bool, tkC_ren, FinR, evRes, evRVs, evRV, am, simprocAttr, tys]
    exact ⟨_, [], [0, 1], rfl, ⟨rfl, rfl, by simp, (fun i hi => .inr ((by decide : ∀ i, i < 2 → ([0, 1] : List Nat).getD i 0 = i) i hi)), trivial, ⟨.inr ⟨by decide, rfl⟩, .inr ⟨by decide, rfl⟩, trivial⟩, rfl, by decide, rfl, (by first | rfl | simp [scRow, tkC_scs])⟩, rfl, rfl⟩

set_option maxRecDepth 8000 in
theorem ints2E (c0 c1 c4 : DV) (x y : Int) (b : List UInt8) (hl : b.length ≤ 100000000) (h0 : b = []) :
    AFun Try.prog 87 [byts b, .own 1] [bx5 c0 c1 c4 x y, .box [.ptr 0 2, .ptr 0 3]] (.tup [nilS, bool false]) [bx5 c0 c1 c4 (x) (y), .box [.ptr 0 2, .ptr 0 3]] := by
  subst h0
  refine AFun.of_walk hP Try.func87 rfl rfl rfl (by simp) rfl ?_
  simp only [Try.f87, bx5, int, am, simprocAttr, tys]
  refine ACall.of (octsNew [] (by omega)) [] [] rfl (by simp) (by simp) (by simp) (by repeat' (first | exact trivial | exact .inl rfl | exact .inr rfl | exact .inr ⟨rfl, rfl, rfl, by simp; done⟩ | exact .inr ⟨rfl, by simp; done⟩ | exact .inr ⟨rfl, rfl, by simp; done⟩ | apply And.intro)) (by repeat' (first | exact trivial | rfl | exact (tkC_ren.1 _ _).symm | (simp; done) | apply And.intro)) (by first | exact .inl rfl | (refine .inr ⟨trivial, ?_⟩; first | (intro row h; rcases List.mem_singleton.1 h with rfl; exact nvB _) | (intro row h; cases h; done) | (simp; done)) | (refine .inr ⟨by simp [nvP, nvP.nvPs, nvD, nilS, errno], ?_⟩; first | (intro row h; rcases List.mem_singleton.1 h with rfl; exact nvB _) | (intro row h; cases h; done) | (simp [nvRow, nvD, nvP]; done))) ?_
  simp only [tkC_ren, am, simprocAttr, tys]
  refine ALoopW.intro 41 2 (ι := { z : Nat × Int × Int × Tk // z = (0, x, y, some []) }) (fun z => [(0, byts []), (6, .ptr 2 0), (11, .own 1), (12, int 2), (13, int z.1.1)])
    (fun z => [.box [.d c0, .d c1, int z.1.2.1, int z.1.2.2.1, .d c4], .box [.ptr 0 2, .ptr 0 3], .box (tkC z.1.2.2.2)]) (fun z => 2 - z.1.1) ⟨(0, x, y, some []), rfl⟩ [] [0, 1, 2] ?_ (fun ⟨⟨k, v, w, t⟩, hz⟩ => ?_)
  · exact ⟨rfl, rfl, by simp, (fun i hi => .inr ((by decide : ∀ i, i < 2 → ([0, 1, 2] : List Nat).getD i 0 = i) i hi)), ⟨.inr rfl, .inr rfl, .inr rfl, .inr rfl, .inr rfl, trivial⟩, ⟨.inr ⟨by decide, rfl⟩, .inr ⟨by decide, rfl⟩, .inr ⟨by decide, rfl⟩, trivial⟩, rfl, by decide, rfl, (by first | rfl | simp [scRow, tkC_scs])⟩
  · simp only [Prod.mk.injEq] at hz
    obtain ⟨rfl, rfl, rfl, rfl⟩ := hz
    simp only [int, am, simprocAttr, tys]
    refine ACall.of (tkLeft (some [])) [2] [] rfl (by simp) (by simp) (by simp) (by repeat' (first | exact trivial | exact .inl rfl | exact .inr rfl | exact .inr ⟨rfl, rfl, rfl, by simp; done⟩ | exact .inr ⟨rfl, by simp; done⟩ | exact .inr ⟨rfl, rfl, by simp; done⟩ | apply And.intro)) (by repeat' (first | exact trivial | rfl | exact (tkC_ren.1 _ _).symm | (simp; done) | apply And.intro)) (by first | exact .inl rfl | (refine .inr ⟨trivial, ?_⟩; first | (intro row h; rcases List.mem_singleton.1 h with rfl; exact nvB _) | (intro row h; cases h; done) | (simp; done)) | (refine .inr ⟨by simp [nvP, nvP.nvPs, nvD, nilS, errno], ?_⟩; first | (intro row h; rcases List.mem_singleton.1 h with rfl; exact nvB _) | (intro row h; cases h; done) | (simp [nvRow, nvD, nvP]; done))) ?_
    simp only [leftT, int, List.length_nil, nilS, bool, tkC_ren, FinR, evRes, evRVs, evRV, am, simprocAttr, tys]
    exact ⟨_, [], [0, 1], rfl, ⟨rfl, rfl, by simp, (fun i hi => .inr ((by decide : ∀ i, i < 2 → ([0, 1] : List Nat).getD i 0 = i) i hi)), trivial, ⟨.inr ⟨by decide, rfl⟩, .inr ⟨by decide, rfl⟩, trivial⟩, rfl, by decide, rfl, (by first | rfl | simp [scRow, tkC_scs])⟩, rfl, rfl⟩

set_option maxRecDepth 8000 in
theorem ints1M (c0 c1 c4 : DV) (x y : Int) (b : List UInt8) (hl : b.length ≤ 100000000) (h0 : b ≠ []) (hk : takeNum b = none) :
    AFun Try.prog 87 [byts b, .own 1] [bx5 c0 c1 c4 x y, .box [.ptr 0 2]] (.tup [nilS, bool false]) [bx5 c0 c1 c4 (unfold' 0) (y), .box [.ptr 0 2]] := by
  refine AFun.of_walk hP Try.func87 rfl rfl rfl (by simp) rfl ?_
  simp only [Try.f87, bx5, int, am, simprocAttr, tys]
  refine ACall.of (octsNew b (by omega)) [] [] rfl (by simp) (by simp) (by simp) (by repeat' (first | exact trivial | exact .inl rfl | exact .inr rfl | exact .inr ⟨rfl, rfl, rfl, by simp; done⟩ | exact .inr ⟨rfl, by simp; done⟩ | exact .inr ⟨rfl, rfl, by simp; done⟩ | apply And.intro)) (by repeat' (first | exact trivial | rfl | exact (tkC_ren.1 _ _).symm | (simp; done) | apply And.intro)) (by first | exact .inl rfl | (refine .inr ⟨trivial, ?_⟩; first | (intro row h; rcases List.mem_singleton.1 h with rfl; exact nvB _) | (intro row h; cases h; done) | (simp; done)) | (refine .inr ⟨by simp [nvP, nvP.nvPs, nvD, nilS, errno], ?_⟩; first | (intro row h; rcases List.mem_singleton.1 h with rfl; exact nvB _) | (intro row h; cases h; done) | (simp [nvRow, nvD, nvP]; done))) ?_
  simp only [tkC_ren, am, simprocAttr, tys]
  refine ALoopW.intro 41 2 (ι := { z : Nat × Int × Int × Tk // z = (0, x, y, some b) ∨ z = (1, unfold' 0, y, none) }) (fun z => [(0, byts b), (6, .ptr 2 0), (11, .own 1), (12, int 1), (13, int z.1.1)])
    (fun z => [.box [.d c0, .d c1, int z.1.2.1, int z.1.2.2.1, .d c4], .box [.ptr 0 2], .box (tkC z.1.2.2.2)]) (fun z => 1 - z.1.1) ⟨(0, x, y, some b), .inl rfl⟩ [] [0, 1, 2] ?_ (fun ⟨⟨k, v, w, t⟩, hz⟩ => ?_)
  · exact ⟨rfl, rfl, by simp, (fun i hi => .inr ((by decide : ∀ i, i < 2 → ([0, 1, 2] : List Nat).getD i 0 = i) i hi)), ⟨.inr rfl, .inr rfl, .inr rfl, .inr rfl, .inr rfl, trivial⟩, ⟨.inr ⟨by decide, rfl⟩, .inr ⟨by decide, rfl⟩, .inr ⟨by decide, rfl⟩, trivial⟩, rfl, by decide, rfl, (by first | rfl | simp [scRow, tkC_scs])⟩
  rcases hz with hz | hz
  · simp only [Prod.mk.injEq] at hz
    obtain ⟨rfl, rfl, rfl, rfl⟩ := hz
    simp only [int, am, simprocAttr, tys]
    have hb0 : (((b.length : Nat) : Int) == 0) = false := by
      rw [beq_eq_false_iff_ne]
      have : b ≠ [] := h0
      have := List.length_pos_iff.2 this
      omega
    have w1 : IntKind.i64.wrap ((0 : Int) + 1) = 1 := by decide
    refine ACall.of (tkLeft (some b)) [2] [] rfl (by simp) (by simp) (by simp) (by repeat' (first | exact trivial | exact .inl rfl | exact .inr rfl | exact .inr ⟨rfl, rfl, rfl, by simp; done⟩ | exact .inr ⟨rfl, by simp; done⟩ | exact .inr ⟨rfl, rfl, by simp; done⟩ | apply And.intro)) (by repeat' (first | exact trivial | rfl | exact (tkC_ren.1 _ _).symm | (simp; done) | apply And.intro)) (by first | exact .inl rfl | (refine .inr ⟨trivial, ?_⟩; first | (intro row h; rcases List.mem_singleton.1 h with rfl; exact nvB _) | (intro row h; cases h; done) | (simp; done)) | (refine .inr ⟨by simp [nvP, nvP.nvPs, nvD, nilS, errno], ?_⟩; first | (intro row h; rcases List.mem_singleton.1 h with rfl; exact nvB _) | (intro row h; cases h; done) | (simp [nvRow, nvD, nvP]; done))) ?_
    simp only [leftT, int, hb0, tkC_ren, am, simprocAttr, tys]
    refine ACall.of (tkInt (some b) (by intro bs h; cases h; omega)) [2] [] rfl (by simp) (by simp) (by simp) (by repeat' (first | exact trivial | exact .inl rfl | exact .inr rfl | exact .inr ⟨rfl, rfl, rfl, by simp; done⟩ | exact .inr ⟨rfl, by simp; done⟩ | exact .inr ⟨rfl, rfl, by simp; done⟩ | apply And.intro)) (by repeat' (first | exact trivial | rfl | exact (tkC_ren.1 _ _).symm | (simp; done) | apply And.intro)) (by first | exact .inl rfl | (refine .inr ⟨trivial, ?_⟩; first | (intro row h; rcases List.mem_singleton.1 h with rfl; exact nvB _) | (intro row h; cases h; done) | (simp; done)) | (refine .inr ⟨by simp [nvP, nvP.nvPs, nvD, nilS, errno], ?_⟩; first | (intro row h; rcases List.mem_singleton.1 h with rfl; exact nvB _) | (intro row h; cases h; done) | (simp [nvRow, nvD, nvP]; done))) ?_
    simp only [numT, hk, int, w1, tkC_ren, am, simprocAttr, tys]
    exact ⟨⟨(1, unfold' 0, _, none), .inr rfl⟩, [], [0, 1, 2], ⟨rfl, rfl, by simp, (fun i hi => .inr ((by decide : ∀ i, i < 2 → ([0, 1, 2] : List Nat).getD i 0 = i) i hi)), ⟨.inr rfl, .inr rfl, .inr rfl, .inr rfl, .inr rfl, trivial⟩, ⟨.inr ⟨by decide, rfl⟩, .inr ⟨by decide, rfl⟩, .inr ⟨by decide, rfl⟩, trivial⟩, rfl, by decide, rfl, (by first | rfl | simp [scRow, tkC_scs])⟩, by show 1 - 1 < 1 - 0; omega⟩
  · simp only [Prod.mk.injEq] at hz
    obtain ⟨rfl, rfl, rfl, rfl⟩ := hz
    simp only [int, am, simprocAttr, tys]
    refine ACall.of (tkLeft none) [2] [] rfl (by simp) (by simp) (by simp) (by repeat' (first | exact trivial | exact .inl rfl | exact .inr rfl | exact .inr ⟨rfl, rfl, rfl, by simp; done⟩ | exact .inr ⟨rfl, by simp; done⟩ | exact .inr ⟨rfl, rfl, by simp; done⟩ | apply And.intro)) (by repeat' (first | exact trivial | rfl | exact (tkC_ren.1 _ _).symm | (simp; done) | apply And.intro)) (by first | exact .inl rfl | (refine .inr ⟨trivial, ?_⟩; first | (intro row h; rcases List.mem_singleton.1 h with rfl; exact nvB _) | (intro row h; cases h; done) | (simp; done)) | (refine .inr ⟨by simp [nvP, nvP.nvPs, nvD, nilS, errno], ?_⟩; first | (intro row h; rcases List.mem_singleton.1 h with rfl; exact nvB _) | (intro row h; cases h; done) | (simp [nvRow, nvD, nvP]; done))) ?_
    simp only [leftT, int, tkC_ren, am, simprocAttr, tys]
    refine ACall.of (tkEnd none) [2] [] rfl (by simp) (by simp) (by simp) (by repeat' (first | exact trivial | exact .inl rfl | exact .inr rfl | exact .inr ⟨rfl, rfl, rfl, by simp; done⟩ | exact .inr ⟨rfl, by simp; done⟩ | exact .inr ⟨rfl, rfl, by simp; done⟩ | apply And.intro)) (by repeat' (first | exact trivial | rfl | exact (tkC_ren.1 _ _).symm | (simp; done) | apply And.intro)) (by first | exact .inl rfl | (refine .inr ⟨trivial, ?_⟩; first | (intro row h; rcases List.mem_singleton.1 h with rfl; exact nvB _) | (intro row h; cases h; done) | (simp; done)) | (refine .inr ⟨by simp [nvP, nvP.nvPs, nvD, nilS, errno], ?_⟩; first | (intro row h; rcases List.mem_singleton.1 h with rfl; exact nvB _) | (intro row h; cases h; done) | (simp [nvRow, nvD, nvP]; done))) ?_
    simp only [endT, errno, nilS, bool, tkC_ren, FinR, evRes, evRVs, evRV, am, simprocAttr, tys]
    exact ⟨_, [], [0, 1], rfl, ⟨rfl, rfl, by simp, (fun i hi => .inr ((by decide : ∀ i, i < 2 → ([0, 1] : List Nat).getD i 0 = i) i hi)), trivial, ⟨.inr ⟨by decide, rfl⟩, .inr ⟨by decide, rfl⟩, trivial⟩, rfl, by decide, rfl, (by first | rfl | simp [scRow, tkC_scs])⟩, rfl, rfl⟩

set_option maxRecDepth 8000 in
theorem ints2M (c0 c1 c4 : DV) (x y : Int) (b : List UInt8) (hl : b.length ≤ 100000000) (h0 : b ≠ []) (hk : takeNum b = none) :
    AFun Try.prog 87 [byts b, .own 1] [bx5 c0 c1 c4 x y, .box [.ptr 0 2, .ptr 0 3]] (.tup [nilS, bool false]) [bx5 c0 c1 c4 (unfold' 0) (y), .box [.ptr 0 2, .ptr 0 3]] := by
  refine AFun.of_walk hP Try.func87 rfl rfl rfl (by simp) rfl ?_
  simp only [Try.f87, bx5, int, am, simprocAttr, tys]
  refine ACall.of (octsNew b (by omega)) [] [] rfl (by simp) (by simp) (by simp) (by repeat' (first | exact trivial | exact .inl rfl | exact .inr rfl | exact .inr ⟨rfl, rfl, rfl, by simp; done⟩ | exact .inr ⟨rfl, by simp; done⟩ | exact .inr ⟨rfl, rfl, by simp; done⟩ | apply And.intro)) (by repeat' (first | exact trivial | rfl | exact (tkC_ren.1 _ _).symm | (simp; done) | apply And.intro)) (by first | exact .inl rfl | (refine .inr ⟨trivial, ?_⟩; first | (intro row h; rcases List.mem_singleton.1 h with rfl; exact nvB _) | (intro row h; cases h; done) | (simp; done)) | (refine .inr ⟨by simp [nvP, nvP.nvPs, nvD, nilS, errno], ?_⟩; first | (intro row h; rcases List.mem_singleton.1 h with rfl; exact nvB _) | (intro row h; cases h; done) | (simp [nvRow, nvD, nvP]; done))) ?_
  simp only [tkC_ren, am, simprocAttr, tys]
  refine ALoopW.intro 41 2 (ι := { z : Nat × Int × Int × Tk // z = (0, x, y, some b) ∨ z = (1, unfold' 0, y, none) }) (fun z => [(0, byts b), (6, .ptr 2 0), (11, .own 1), (12, int 2), (13, int z.1.1)])
    (fun z => [.box [.d c0, .d c1, int z.1.2.1, int z.1.2.2.1, .d c4], .box [.ptr 0 2, .ptr 0 3], .box (tkC z.1.2.2.2)]) (fun z => 2 - z.1.1) ⟨(0, x, y, some b), .inl rfl⟩ [] [0, 1, 2] ?_ (fun ⟨⟨k, v, w, t⟩, hz⟩ => ?_)
  · exact ⟨rfl, rfl, by simp, (fun i hi => .inr ((by decide : ∀ i, i < 2 → ([0, 1, 2] : List Nat).getD i 0 = i) i hi)), ⟨.inr rfl, .inr rfl, .inr rfl, .inr rfl, .inr rfl, trivial⟩, ⟨.inr ⟨by decide, rfl⟩, .inr ⟨by decide, rfl⟩, .inr ⟨by decide, rfl⟩, trivial⟩, rfl, by decide, rfl, (by first | rfl | simp [scRow, tkC_scs])⟩
  rcases hz with hz | hz
  · simp only [Prod.mk.injEq] at hz
    obtain ⟨rfl, rfl, rfl, rfl⟩ := hz
    simp only [int, am, simprocAttr, tys]
    have hb0 : (((b.length : Nat) : Int) == 0) = false := by
      rw [beq_eq_false_iff_ne]
      have : b ≠ [] := h0
      have := List.length_pos_iff.2 this
      omega
    have w1 : IntKind.i64.wrap ((0 : Int) + 1) = 1 := by decide
    refine ACall.of (tkLeft (some b)) [2] [] rfl (by simp) (by simp) (by simp) (by repeat' (first | exact trivial | exact .inl rfl | exact .inr rfl | exact .inr ⟨rfl, rfl, rfl, by simp; done⟩ | exact .inr ⟨rfl, by simp; done⟩ | exact .inr ⟨rfl, rfl, by simp; done⟩ | apply And.intro)) (by repeat' (first | exact trivial | rfl | exact (tkC_ren.1 _ _).symm | (simp; done) | apply And.intro)) (by first | exact .inl rfl | (refine .inr ⟨trivial, ?_⟩; first | (intro row h; rcases List.mem_singleton.1 h with rfl; exact nvB _) | (intro row h; cases h; done) | (simp; done)) | (refine .inr ⟨by simp [nvP, nvP.nvPs, nvD, nilS, errno], ?_⟩; first | (intro row h; rcases List.mem_singleton.1 h with rfl; exact nvB _) | (intro row h; cases h; done) | (simp [nvRow, nvD, nvP]; done))) ?_
    simp only [leftT, int, hb0, tkC_ren, am, simprocAttr, tys]
    refine ACall.of (tkInt (some b) (by intro bs h; cases h; omega)) [2] [] rfl (by simp) (by simp) (by simp) (by repeat' (first | exact trivial | exact .inl rfl | exact .inr rfl | exact .inr ⟨rfl, rfl, rfl, by simp; done⟩ | exact .inr ⟨rfl, by simp; done⟩ | exact .inr ⟨rfl, rfl, by simp; done⟩ | apply And.intro)) (by repeat' (first | exact trivial | rfl | exact (tkC_ren.1 _ _).symm | (simp; done) | apply And.intro)) (by first | exact .inl rfl | (refine .inr ⟨trivial, ?_⟩; first | (intro row h; rcases List.mem_singleton.1 h with rfl; exact nvB _) | (intro row h; cases h; done) | (simp; done)) | (refine .inr ⟨by simp [nvP, nvP.nvPs, nvD, nilS, errno], ?_⟩; first | (intro row h; rcases List.mem_singleton.1 h with rfl; exact nvB _) | (intro row h; cases h; done) | (simp [nvRow, nvD, nvP]; done))) ?_
    simp only [numT, hk, int, w1, tkC_ren, am, simprocAttr, tys]
    exact ⟨⟨(1, unfold' 0, _, none), .inr rfl⟩, [], [0, 1, 2], ⟨rfl, rfl, by simp, (fun i hi => .inr ((by decide : ∀ i, i < 2 → ([0, 1, 2] : List Nat).getD i 0 = i) i hi)), ⟨.inr rfl, .inr rfl, .inr rfl, .inr rfl, .inr rfl, trivial⟩, ⟨.inr ⟨by decide, rfl⟩, .inr ⟨by decide, rfl⟩, .inr ⟨by decide, rfl⟩, trivial⟩, rfl, by decide, rfl, (by first | rfl | simp [scRow, tkC_scs])⟩, by show 2 - 1 < 2 - 0; omega⟩
  · simp only [Prod.mk.injEq] at hz
    obtain ⟨rfl, rfl, rfl, rfl⟩ := hz
    simp only [int, am, simprocAttr, tys]
    refine ACall.of (tkLeft none) [2] [] rfl (by simp) (by simp) (by simp) (by repeat' (first | exact trivial | exact .inl rfl | exact .inr rfl | exact .inr ⟨rfl, rfl, rfl, by simp; done⟩ | exact .inr ⟨rfl, by simp; done⟩ | exact .inr ⟨rfl, rfl, by simp; done⟩ | apply And.intro)) (by repeat' (first | exact trivial | rfl | exact (tkC_ren.1 _ _).symm | (simp; done) | apply And.intro)) (by first | exact .inl rfl | (refine .inr ⟨trivial, ?_⟩; first | (intro row h; rcases List.mem_singleton.1 h with rfl; exact nvB _) | (intro row h; cases h; done) | (simp; done)) | (refine .inr ⟨by simp [nvP, nvP.nvPs, nvD, nilS, errno], ?_⟩; first | (intro row h; rcases List.mem_singleton.1 h with rfl; exact nvB _) | (intro row h; cases h; done) | (simp [nvRow, nvD, nvP]; done))) ?_
    simp only [leftT, int, List.length_nil, nilS, bool, tkC_ren, FinR, evRes, evRVs, evRV, am, simprocAttr, tys]
    exact ⟨_, [], [0, 1], rfl, ⟨rfl, rfl, by simp, (fun i hi => .inr ((by decide : ∀ i, i < 2 → ([0, 1] : List Nat).getD i 0 = i) i hi)), trivial, ⟨.inr ⟨by decide, rfl⟩, .inr ⟨by decide, rfl⟩, trivial⟩, rfl, by decide, rfl, (by first | rfl | simp [scRow, tkC_scs])⟩, rfl, rfl⟩

set_option maxRecDepth 8000 in
theorem ints2F (c0 c1 c4 : DV) (x y : Int) (b : List UInt8) (hl : b.length ≤ 100000000) (u : Nat) (hk : takeNum b = some (u, [])) :
    AFun Try.prog 87 [byts b, .own 1] [bx5 c0 c1 c4 x y, .box [.ptr 0 2, .ptr 0 3]] (.tup [nilS, bool false]) [bx5 c0 c1 c4 (unfold' u) (y), .box [.ptr 0 2, .ptr 0 3]] := by
  refine AFun.of_walk hP Try.func87 rfl rfl rfl (by simp) rfl ?_
  simp only [Try.f87, bx5, int, am, simprocAttr, tys]
  refine ACall.of (octsNew b (by omega)) [] [] rfl (by simp) (by simp) (by simp) (by repeat' (first | exact trivial | exact .inl rfl | exact .inr rfl | exact .inr ⟨rfl, rfl, rfl, by simp; done⟩ | exact .inr ⟨rfl, by simp; done⟩ | exact .inr ⟨rfl, rfl, by simp; done⟩ | apply And.intro)) (by repeat' (first | exact trivial | rfl | exact (tkC_ren.1 _ _).symm | (simp; done) | apply And.intro)) (by first | exact .inl rfl | (refine .inr ⟨trivial, ?_⟩; first | (intro row h; rcases List.mem_singleton.1 h with rfl; exact nvB _) | (intro row h; cases h; done) | (simp; done)) | (refine .inr ⟨by simp [nvP, nvP.nvPs, nvD, nilS, errno], ?_⟩; first | (intro row h; rcases List.mem_singleton.1 h with rfl; exact nvB _) | (intro row h; cases h; done) | (simp [nvRow, nvD, nvP]; done))) ?_
  simp only [tkC_ren, am, simprocAttr, tys]
  refine ALoopW.intro 41 2 (ι := { z : Nat × Int × Int × Tk // z = (0, x, y, some b) ∨ z = (1, unfold' u, y, some []) }) (fun z => [(0, byts b), (6, .ptr 2 0), (11, .own 1), (12, int 2), (13, int z.1.1)])
    (fun z => [.box [.d c0, .d c1, int z.1.2.1, int z.1.2.2.1, .d c4], .box [.ptr 0 2, .ptr 0 3], .box (tkC z.1.2.2.2)]) (fun z => 2 - z.1.1) ⟨(0, x, y, some b), .inl rfl⟩ [] [0, 1, 2] ?_ (fun ⟨⟨k, v, w, t⟩, hz⟩ => ?_)
  · exact ⟨rfl, rfl, by simp, (fun i hi => .inr ((by decide : ∀ i, i < 2 → ([0, 1, 2] : List Nat).getD i 0 = i) i hi)), ⟨.inr rfl, .inr rfl, .inr rfl, .inr rfl, .inr rfl, trivial⟩, ⟨.inr ⟨by decide, rfl⟩, .inr ⟨by decide, rfl⟩, .inr ⟨by decide, rfl⟩, trivial⟩, rfl, by decide, rfl, (by first | rfl | simp [scRow, tkC_scs])⟩
  rcases hz with hz | hz
  · simp only [Prod.mk.injEq] at hz
    obtain ⟨rfl, rfl, rfl, rfl⟩ := hz
    simp only [int, am, simprocAttr, tys]
    have hb0 : (((b.length : Nat) : Int) == 0) = false := by
      rw [beq_eq_false_iff_ne]
      have : b ≠ [] := fun e => by rw [e] at hk; cases hk
      have := List.length_pos_iff.2 this
      omega
    have w1 : IntKind.i64.wrap ((0 : Int) + 1) = 1 := by decide
    refine ACall.of (tkLeft (some b)) [2] [] rfl (by simp) (by simp) (by simp) (by repeat' (first | exact trivial | exact .inl rfl | exact .inr rfl | exact .inr ⟨rfl, rfl, rfl, by simp; done⟩ | exact .inr ⟨rfl, by simp; done⟩ | exact .inr ⟨rfl, rfl, by simp; done⟩ | apply And.intro)) (by repeat' (first | exact trivial | rfl | exact (tkC_ren.1 _ _).symm | (simp; done) | apply And.intro)) (by first | exact .inl rfl | (refine .inr ⟨trivial, ?_⟩; first | (intro row h; rcases List.mem_singleton.1 h with rfl; exact nvB _) | (intro row h; cases h; done) | (simp; done)) | (refine .inr ⟨by simp [nvP, nvP.nvPs, nvD, nilS, errno], ?_⟩; first | (intro row h; rcases List.mem_singleton.1 h with rfl; exact nvB _) | (intro row h; cases h; done) | (simp [nvRow, nvD, nvP]; done))) ?_
    simp only [leftT, int, hb0, tkC_ren, am, simprocAttr, tys]
    refine ACall.of (tkInt (some b) (by intro bs h; cases h; omega)) [2] [] rfl (by simp) (by simp) (by simp) (by repeat' (first | exact trivial | exact .inl rfl | exact .inr rfl | exact .inr ⟨rfl, rfl, rfl, by simp; done⟩ | exact .inr ⟨rfl, by simp; done⟩ | exact .inr ⟨rfl, rfl, by simp; done⟩ | apply And.intro)) (by repeat' (first | exact trivial | rfl | exact (tkC_ren.1 _ _).symm | (simp; done) | apply And.intro)) (by first | exact .inl rfl | (refine .inr ⟨trivial, ?_⟩; first | (intro row h; rcases List.mem_singleton.1 h with rfl; exact nvB _) | (intro row h; cases h; done) | (simp; done)) | (refine .inr ⟨by simp [nvP, nvP.nvPs, nvD, nilS, errno], ?_⟩; first | (intro row h; rcases List.mem_singleton.1 h with rfl; exact nvB _) | (intro row h; cases h; done) | (simp [nvRow, nvD, nvP]; done))) ?_
    simp only [numT, hk, int, w1, tkC_ren, am, simprocAttr, tys]
    exact ⟨⟨(1, unfold' u, _, some []), .inr rfl⟩, [], [0, 1, 2], ⟨rfl, rfl, by simp, (fun i hi => .inr ((by decide : ∀ i, i < 2 → ([0, 1, 2] : List Nat).getD i 0 = i) i hi)), ⟨.inr rfl, .inr rfl, .inr rfl, .inr rfl, .inr rfl, trivial⟩, ⟨.inr ⟨by decide, rfl⟩, .inr ⟨by decide, rfl⟩, .inr ⟨by decide, rfl⟩, trivial⟩, rfl, by decide, rfl, (by first | rfl | simp [scRow, tkC_scs])⟩, by show 2 - 1 < 2 - 0; omega⟩
  · simp only [Prod.mk.injEq] at hz
    obtain ⟨rfl, rfl, rfl, rfl⟩ := hz
    simp only [int, am, simprocAttr, tys]
    refine ACall.of (tkLeft (some [])) [2] [] rfl (by simp) (by simp) (by simp) (by repeat' (first | exact trivial | exact .inl rfl | exact .inr rfl | exact .inr ⟨rfl, rfl, rfl, by simp; done⟩ | exact .inr ⟨rfl, by simp; done⟩ | exact .inr ⟨rfl, rfl, by simp; done⟩ | apply And.intro)) (by repeat' (first | exact trivial | rfl | exact (tkC_ren.1 _ _).symm | (simp; done) | apply And.intro)) (by first | exact .inl rfl | (refine .inr ⟨trivial, ?_⟩; first | (intro row h; rcases List.mem_singleton.1 h with rfl; exact nvB _) | (intro row h; cases h; done) | (simp; done)) | (refine .inr ⟨by simp [nvP, nvP.nvPs, nvD, nilS, errno], ?_⟩; first | (intro row h; rcases List.mem_singleton.1 h with rfl; exact nvB _) | (intro row h; cases h; done) | (simp [nvRow, nvD, nvP]; done))) ?_
    simp only [leftT, int, List.length_nil, nilS, bool, tkC_ren, FinR, evRes, evRVs, evRV, am, simprocAttr, tys]
    exact ⟨_, [], [0, 1], rfl, ⟨rfl, rfl, by simp, (fun i hi => .inr ((by decide : ∀ i, i < 2 → ([0, 1] : List Nat).getD i 0 = i) i hi)), trivial, ⟨.inr ⟨by decide, rfl⟩, .inr ⟨by decide, rfl⟩, trivial⟩, rfl, by decide, rfl, (by first | rfl | simp [scRow, tkC_scs])⟩, rfl, rfl⟩

set_option maxRecDepth 8000 in
theorem ints2G (c0 c1 c4 : DV) (x y : Int) (b : List UInt8) (hl : b.length ≤ 100000000) (u : Nat) (r : List UInt8) (hk : takeNum b = some (u, r)) (h0 : r ≠ []) (hk2 : takeNum r = none) :
    AFun Try.prog 87 [byts b, .own 1] [bx5 c0 c1 c4 x y, .box [.ptr 0 2, .ptr 0 3]] (.tup [nilS, bool false]) [bx5 c0 c1 c4 (unfold' u) (unfold' 0), .box [.ptr 0 2, .ptr 0 3]] := by
  have hrl : r.length ≤ b.length := by rw [(takeNum_some hk).2]; simp
  refine AFun.of_walk hP Try.func87 rfl rfl rfl (by simp) rfl ?_
  simp only [Try.f87, bx5, int, am, simprocAttr, tys]
  refine ACall.of (octsNew b (by omega)) [] [] rfl (by simp) (by simp) (by simp) (by repeat' (first | exact trivial | exact .inl rfl | exact .inr rfl | exact .inr ⟨rfl, rfl, rfl, by simp; done⟩ | exact .inr ⟨rfl, by simp; done⟩ | exact .inr ⟨rfl, rfl, by simp; done⟩ | apply And.intro)) (by repeat' (first | exact trivial | rfl | exact (tkC_ren.1 _ _).symm | (simp; done) | apply And.intro)) (by first | exact .inl rfl | (refine .inr ⟨trivial, ?_⟩; first | (intro row h; rcases List.mem_singleton.1 h with rfl; exact nvB _) | (intro row h; cases h; done) | (simp; done)) | (refine .inr ⟨by simp [nvP, nvP.nvPs, nvD, nilS, errno], ?_⟩; first | (intro row h; rcases List.mem_singleton.1 h with rfl; exact nvB _) | (intro row h; cases h; done) | (simp [nvRow, nvD, nvP]; done))) ?_
  simp only [tkC_ren, am, simprocAttr, tys]
  refine ALoopW.intro 41 2 (ι := { z : Nat × Int × Int × Tk // z = (0, x, y, some b) ∨ z = (1, unfold' u, y, some r) ∨ z = (2, unfold' u, unfold' 0, none) }) (fun z => [(0, byts b), (6, .ptr 2 0), (11, .own 1), (12, int 2), (13, int z.1.1)])
    (fun z => [.box [.d c0, .d c1, int z.1.2.1, int z.1.2.2.1, .d c4], .box [.ptr 0 2, .ptr 0 3], .box (tkC z.1.2.2.2)]) (fun z => 2 - z.1.1) ⟨(0, x, y, some b), .inl rfl⟩ [] [0, 1, 2] ?_ (fun ⟨⟨k, v, w, t⟩, hz⟩ => ?_)
  · exact ⟨rfl, rfl, by simp, (fun i hi => .inr ((by decide : ∀ i, i < 2 → ([0, 1, 2] : List Nat).getD i 0 = i) i hi)), ⟨.inr rfl, .inr rfl, .inr rfl, .inr rfl, .inr rfl, trivial⟩, ⟨.inr ⟨by decide, rfl⟩, .inr ⟨by decide, rfl⟩, .inr ⟨by decide, rfl⟩, trivial⟩, rfl, by decide, rfl, (by first | rfl | simp [scRow, tkC_scs])⟩
  rcases hz with hz | hz | hz
  · simp only [Prod.mk.injEq] at hz
    obtain ⟨rfl, rfl, rfl, rfl⟩ := hz
    simp only [int, am, simprocAttr, tys]
    have hb0 : (((b.length : Nat) : Int) == 0) = false := by
      rw [beq_eq_false_iff_ne]
      have : b ≠ [] := fun e => by rw [e] at hk; cases hk
      have := List.length_pos_iff.2 this
      omega
    have w1 : IntKind.i64.wrap ((0 : Int) + 1) = 1 := by decide
    refine ACall.of (tkLeft (some b)) [2] [] rfl (by simp) (by simp) (by simp) (by repeat' (first | exact trivial | exact .inl rfl | exact .inr rfl | exact .inr ⟨rfl, rfl, rfl, by simp; done⟩ | exact .inr ⟨rfl, by simp; done⟩ | exact .inr ⟨rfl, rfl, by simp; done⟩ | apply And.intro)) (by repeat' (first | exact trivial | rfl | exact (tkC_ren.1 _ _).symm | (simp; done) | apply And.intro)) (by first | exact .inl rfl | (refine .inr ⟨trivial, ?_⟩; first | (intro row h; rcases List.mem_singleton.1 h with rfl; exact nvB _) | (intro row h; cases h; done) | (simp; done)) | (refine .inr ⟨by simp [nvP, nvP.nvPs, nvD, nilS, errno], ?_⟩; first | (intro row h; rcases List.mem_singleton.1 h with rfl; exact nvB _) | (intro row h; cases h; done) | (simp [nvRow, nvD, nvP]; done))) ?_
    simp only [leftT, int, hb0, tkC_ren, am, simprocAttr, tys]
    refine ACall.of (tkInt (some b) (by intro bs h; cases h; omega)) [2] [] rfl (by simp) (by simp) (by simp) (by repeat' (first | exact trivial | exact .inl rfl | exact .inr rfl | exact .inr ⟨rfl, rfl, rfl, by simp; done⟩ | exact .inr ⟨rfl, by simp; done⟩ | exact .inr ⟨rfl, rfl, by simp; done⟩ | apply And.intro)) (by repeat' (first | exact trivial | rfl | exact (tkC_ren.1 _ _).symm | (simp; done) | apply And.intro)) (by first | exact .inl rfl | (refine .inr ⟨trivial, ?_⟩; first | (intro row h; rcases List.mem_singleton.1 h with rfl; exact nvB _) | (intro row h; cases h; done) | (simp; done)) | (refine .inr ⟨by simp [nvP, nvP.nvPs, nvD, nilS, errno], ?_⟩; first | (intro row h; rcases List.mem_singleton.1 h with rfl; exact nvB _) | (intro row h; cases h; done) | (simp [nvRow, nvD, nvP]; done))) ?_
    simp only [numT, hk, int, w1, tkC_ren, am, simprocAttr, tys]
    exact ⟨⟨(1, unfold' u, _, some r), .inr (.inl rfl)⟩, [], [0, 1, 2], ⟨rfl, rfl, by simp, (fun i hi => .inr ((by decide : ∀ i, i < 2 → ([0, 1, 2] : List Nat).getD i 0 = i) i hi)), ⟨.inr rfl, .inr rfl, .inr rfl, .inr rfl, .inr rfl, trivial⟩, ⟨.inr ⟨by decide, rfl⟩, .inr ⟨by decide, rfl⟩, .inr ⟨by decide, rfl⟩, trivial⟩, rfl, by decide, rfl, (by first | rfl | simp [scRow, tkC_scs])⟩, by show 2 - 1 < 2 - 0; omega⟩
  · simp only [Prod.mk.injEq] at hz
    obtain ⟨rfl, rfl, rfl, rfl⟩ := hz
    simp only [int, am, simprocAttr, tys]
    have hb0 : (((r.length : Nat) : Int) == 0) = false := by
      rw [beq_eq_false_iff_ne]
      have : r ≠ [] := h0
      have := List.length_pos_iff.2 this
      omega
    have w1 : IntKind.i64.wrap ((1 : Int) + 1) = 2 := by decide
    refine ACall.of (tkLeft (some r)) [2] [] rfl (by simp) (by simp) (by simp) (by repeat' (first | exact trivial | exact .inl rfl | exact .inr rfl | exact .inr ⟨rfl, rfl, rfl, by simp; done⟩ | exact .inr ⟨rfl, by simp; done⟩ | exact .inr ⟨rfl, rfl, by simp; done⟩ | apply And.intro)) (by repeat' (first | exact trivial | rfl | exact (tkC_ren.1 _ _).symm | (simp; done) | apply And.intro)) (by first | exact .inl rfl | (refine .inr ⟨trivial, ?_⟩; first | (intro row h; rcases List.mem_singleton.1 h with rfl; exact nvB _) | (intro row h; cases h; done) | (simp; done)) | (refine .inr ⟨by simp [nvP, nvP.nvPs, nvD, nilS, errno], ?_⟩; first | (intro row h; rcases List.mem_singleton.1 h with rfl; exact nvB _) | (intro row h; cases h; done) | (simp [nvRow, nvD, nvP]; done))) ?_
    simp only [leftT, int, hb0, tkC_ren, am, simprocAttr, tys]
    refine ACall.of (tkInt (some r) (by intro bs h; cases h; omega)) [2] [] rfl (by simp) (by simp) (by simp) (by repeat' (first | exact trivial | exact .inl rfl | exact .inr rfl | exact .inr ⟨rfl, rfl, rfl, by simp; done⟩ | exact .inr ⟨rfl, by simp; done⟩ | exact .inr ⟨rfl, rfl, by simp; done⟩ | apply And.intro)) (by repeat' (first | exact trivial | rfl | exact (tkC_ren.1 _ _).symm | (simp; done) | apply And.intro)) (by first | exact .inl rfl | (refine .inr ⟨trivial, ?_⟩; first | (intro row h; rcases List.mem_singleton.1 h with rfl; exact nvB _) | (intro row h; cases h; done) | (simp; done)) | (refine .inr ⟨by simp [nvP, nvP.nvPs, nvD, nilS, errno], ?_⟩; first | (intro row h; rcases List.mem_singleton.1 h with rfl; exact nvB _) | (intro row h; cases h; done) | (simp [nvRow, nvD, nvP]; done))) ?_
    simp only [numT, hk2, int, w1, tkC_ren, am, simprocAttr, tys]
    exact ⟨⟨(2, unfold' u, unfold' 0, none), .inr (.inr rfl)⟩, [], [0, 1, 2], ⟨rfl, rfl, by simp, (fun i hi => .inr ((by decide : ∀ i, i < 2 → ([0, 1, 2] : List Nat).getD i 0 = i) i hi)), ⟨.inr rfl, .inr rfl, .inr rfl, .inr rfl, .inr rfl, trivial⟩, ⟨.inr ⟨by decide, rfl⟩, .inr ⟨by decide, rfl⟩, .inr ⟨by decide, rfl⟩, trivial⟩, rfl, by decide, rfl, (by first | rfl | simp [scRow, tkC_scs])⟩, by show 2 - 2 < 2 - 1; omega⟩
  · simp only [Prod.mk.injEq] at hz
    obtain ⟨rfl, rfl, rfl, rfl⟩ := hz
    simp only [int, am, simprocAttr, tys]
    refine ACall.of (tkLeft none) [2] [] rfl (by simp) (by simp) (by simp) (by repeat' (first | exact trivial | exact .inl rfl | exact .inr rfl | exact .inr ⟨rfl, rfl, rfl, by simp; done⟩ | exact .inr ⟨rfl, by simp; done⟩ | exact .inr ⟨rfl, rfl, by simp; done⟩ | apply And.intro)) (by repeat' (first | exact trivial | rfl | exact (tkC_ren.1 _ _).symm | (simp; done) | apply And.intro)) (by first | exact .inl rfl | (refine .inr ⟨trivial, ?_⟩; first | (intro row h; rcases List.mem_singleton.1 h with rfl; exact nvB _) | (intro row h; cases h; done) | (simp; done)) | (refine .inr ⟨by simp [nvP, nvP.nvPs, nvD, nilS, errno], ?_⟩; first | (intro row h; rcases List.mem_singleton.1 h with rfl; exact nvB _) | (intro row h; cases h; done) | (simp [nvRow, nvD, nvP]; done))) ?_
    simp only [leftT, int, tkC_ren, am, simprocAttr, tys]
    refine ACall.of (tkEnd none) [2] [] rfl (by simp) (by simp) (by simp) (by repeat' (first | exact trivial | exact .inl rfl | exact .inr rfl | exact .inr ⟨rfl, rfl, rfl, by simp; done⟩ | exact .inr ⟨rfl, by simp; done⟩ | exact .inr ⟨rfl, rfl, by simp; done⟩ | apply And.intro)) (by repeat' (first | exact trivial | rfl | exact (tkC_ren.1 _ _).symm | (simp; done) | apply And.intro)) (by first | exact .inl rfl | (refine .inr ⟨trivial, ?_⟩; first | (intro row h; rcases List.mem_singleton.1 h with rfl; exact nvB _) | (intro row h; cases h; done) | (simp; done)) | (refine .inr ⟨by simp [nvP, nvP.nvPs, nvD, nilS, errno], ?_⟩; first | (intro row h; rcases List.mem_singleton.1 h with rfl; exact nvB _) | (intro row h; cases h; done) | (simp [nvRow, nvD, nvP]; done))) ?_
    simp only [endT, errno, nilS, bool, tkC_ren, FinR, evRes, evRVs, evRV, am, simprocAttr, tys]
    exact ⟨_, [], [0, 1], rfl, ⟨rfl, rfl, by simp, (fun i hi => .inr ((by decide : ∀ i, i < 2 → ([0, 1] : List Nat).getD i 0 = i) i hi)), trivial, ⟨.inr ⟨by decide, rfl⟩, .inr ⟨by decide, rfl⟩, trivial⟩, rfl, by decide, rfl, (by first | rfl | simp [scRow, tkC_scs])⟩, rfl, rfl⟩

set_option maxRecDepth 8000 in
theorem ints2Y (c0 c1 c4 : DV) (x y : Int) (b : List UInt8) (hl : b.length ≤ 100000000) (u : Nat) (r : List UInt8) (hk : takeNum b = some (u, r)) (u2 : Nat) (r2 : List UInt8) (hk2 : takeNum r = some (u2, r2)) :
    AFun Try.prog 87 [byts b, .own 1] [bx5 c0 c1 c4 x y, .box [.ptr 0 2, .ptr 0 3]] (.tup [byts r2, bool true]) [bx5 c0 c1 c4 (unfold' u) (unfold' u2), .box [.ptr 0 2, .ptr 0 3]] := by
  have hbr : b = (leb u ++ leb u2) ++ r2 := by rw [List.append_assoc, ← (takeNum_some hk2).2]; exact (takeNum_some hk).2
  have hrl : r.length ≤ b.length := by rw [(takeNum_some hk).2]; simp
  have hrl2 : r2.length ≤ b.length := by rw [hbr]; simp; omega
  refine AFun.of_walk hP Try.func87 rfl rfl rfl (by simp) rfl ?_
  simp only [Try.f87, bx5, int, am, simprocAttr, tys]
  refine ACall.of (octsNew b (by omega)) [] [] rfl (by simp) (by simp) (by simp) (by repeat' (first | exact trivial | exact .inl rfl | exact .inr rfl | exact .inr ⟨rfl, rfl, rfl, by simp; done⟩ | exact .inr ⟨rfl, by simp; done⟩ | exact .inr ⟨rfl, rfl, by simp; done⟩ | apply And.intro)) (by repeat' (first | exact trivial | rfl | exact (tkC_ren.1 _ _).symm | (simp; done) | apply And.intro)) (by first | exact .inl rfl | (refine .inr ⟨trivial, ?_⟩; first | (intro row h; rcases List.mem_singleton.1 h with rfl; exact nvB _) | (intro row h; cases h; done) | (simp; done)) | (refine .inr ⟨by simp [nvP, nvP.nvPs, nvD, nilS, errno], ?_⟩; first | (intro row h; rcases List.mem_singleton.1 h with rfl; exact nvB _) | (intro row h; cases h; done) | (simp [nvRow, nvD, nvP]; done))) ?_
  simp only [tkC_ren, am, simprocAttr, tys]
  refine ALoopW.intro 41 2 (ι := { z : Nat × Int × Int × Tk // z = (0, x, y, some b) ∨ z = (1, unfold' u, y, some r) ∨ z = (2, unfold' u, unfold' u2, some r2) }) (fun z => [(0, byts b), (6, .ptr 2 0), (11, .own 1), (12, int 2), (13, int z.1.1)])
    (fun z => [.box [.d c0, .d c1, int z.1.2.1, int z.1.2.2.1, .d c4], .box [.ptr 0 2, .ptr 0 3], .box (tkC z.1.2.2.2)]) (fun z => 2 - z.1.1) ⟨(0, x, y, some b), .inl rfl⟩ [] [0, 1, 2] ?_ (fun ⟨⟨k, v, w, t⟩, hz⟩ => ?_)
  · exact ⟨rfl, rfl, by simp, (fun i hi => .inr ((by decide : ∀ i, i < 2 → ([0, 1, 2] : List Nat).getD i 0 = i) i hi)), ⟨.inr rfl, .inr rfl, .inr rfl, .inr rfl, .inr rfl, trivial⟩, ⟨.inr ⟨by decide, rfl⟩, .inr ⟨by decide, rfl⟩, .inr ⟨by decide, rfl⟩, trivial⟩, rfl, by decide, rfl, (by first | rfl | simp [scRow, tkC_scs])⟩
  rcases hz with hz | hz | hz
  · simp only [Prod.mk.injEq] at hz
    obtain ⟨rfl, rfl, rfl, rfl⟩ := hz
    simp only [int, am, simprocAttr, tys]
    have hb0 : (((b.length : Nat) : Int) == 0) = false := by
      rw [beq_eq_false_iff_ne]
      have : b ≠ [] := fun e => by rw [e] at hk; cases hk
      have := List.length_pos_iff.2 this
      omega
    have w1 : IntKind.i64.wrap ((0 : Int) + 1) = 1 := by decide
    refine ACall.of (tkLeft (some b)) [2] [] rfl (by simp) (by simp) (by simp) (by repeat' (first | exact trivial | exact .inl rfl | exact .inr rfl | exact .inr ⟨rfl, rfl, rfl, by simp; done⟩ | exact .inr ⟨rfl, by simp; done⟩ | exact .inr ⟨rfl, rfl, by simp; done⟩ | apply And.intro)) (by repeat' (first | exact trivial | rfl | exact (tkC_ren.1 _ _).symm | (simp; done) | apply And.intro)) (by first | exact .inl rfl | (refine .inr ⟨trivial, ?_⟩; first | (intro row h; rcases List.mem_singleton.1 h with rfl; exact nvB _) | (intro row h; cases h; done) | (simp; done)) | (refine .inr ⟨by simp [nvP, nvP.nvPs, nvD, nilS, errno], ?_⟩; first | (intro row h; rcases List.mem_singleton.1 h with rfl; exact nvB _) | (intro row h; cases h; done) | (simp [nvRow, nvD, nvP]; done))) ?_
    simp only [leftT, int, hb0, tkC_ren, am, simprocAttr, tys]
    refine ACall.of (tkInt (some b) (by intro bs h; cases h; omega)) [2] [] rfl (by simp) (by simp) (by simp) (by repeat' (first | exact trivial | exact .inl rfl | exact .inr rfl | exact .inr ⟨rfl, rfl, rfl, by simp; done⟩ | exact .inr ⟨rfl, by simp; done⟩ | exact .inr ⟨rfl, rfl, by simp; done⟩ | apply And.intro)) (by repeat' (first | exact trivial | rfl | exact (tkC_ren.1 _ _).symm | (simp; done) | apply And.intro)) (by first | exact .inl rfl | (refine .inr ⟨trivial, ?_⟩; first | (intro row h; rcases List.mem_singleton.1 h with rfl; exact nvB _) | (intro row h; cases h; done) | (simp; done)) | (refine .inr ⟨by simp [nvP, nvP.nvPs, nvD, nilS, errno], ?_⟩; first | (intro row h; rcases List.mem_singleton.1 h with rfl; exact nvB _) | (intro row h; cases h; done) | (simp [nvRow, nvD, nvP]; done))) ?_
    simp only [numT, hk, int, w1, tkC_ren, am, simprocAttr, tys]
    exact ⟨⟨(1, unfold' u, _, some r), .inr (.inl rfl)⟩, [], [0, 1, 2], ⟨rfl, rfl, by simp, (fun i hi => .inr ((by decide : ∀ i, i < 2 → ([0, 1, 2] : List Nat).getD i 0 = i) i hi)), ⟨.inr rfl, .inr rfl, .inr rfl, .inr rfl, .inr rfl, trivial⟩, ⟨.inr ⟨by decide, rfl⟩, .inr ⟨by decide, rfl⟩, .inr ⟨by decide, rfl⟩, trivial⟩, rfl, by decide, rfl, (by first | rfl | simp [scRow, tkC_scs])⟩, by show 2 - 1 < 2 - 0; omega⟩
  · simp only [Prod.mk.injEq] at hz
    obtain ⟨rfl, rfl, rfl, rfl⟩ := hz
    simp only [int, am, simprocAttr, tys]
    have hb0 : (((r.length : Nat) : Int) == 0) = false := by
      rw [beq_eq_false_iff_ne]
      have : r ≠ [] := fun e => by rw [e] at hk2; cases hk2
      have := List.length_pos_iff.2 this
      omega
    have w1 : IntKind.i64.wrap ((1 : Int) + 1) = 2 := by decide
    refine ACall.of (tkLeft (some r)) [2] [] rfl (by simp) (by simp) (by simp) (by repeat' (first | exact trivial | exact .inl rfl | exact .inr rfl | exact .inr ⟨rfl, rfl, rfl, by simp; done⟩ | exact .inr ⟨rfl, by simp; done⟩ | exact .inr ⟨rfl, rfl, by simp; done⟩ | apply And.intro)) (by repeat' (first | exact trivial | rfl | exact (tkC_ren.1 _ _).symm | (simp; done) | apply And.intro)) (by first | exact .inl rfl | (refine .inr ⟨trivial, ?_⟩; first | (intro row h; rcases List.mem_singleton.1 h with rfl; exact nvB _) | (intro row h; cases h; done) | (simp; done)) | (refine .inr ⟨by simp [nvP, nvP.nvPs, nvD, nilS, errno], ?_⟩; first | (intro row h; rcases List.mem_singleton.1 h with rfl; exact nvB _) | (intro row h; cases h; done) | (simp [nvRow, nvD, nvP]; done))) ?_
    simp only [leftT, int, hb0, tkC_ren, am, simprocAttr, tys]
    refine ACall.of (tkInt (some r) (by intro bs h; cases h; omega)) [2] [] rfl (by simp) (by simp) (by simp) (by repeat' (first | exact trivial | exact .inl rfl | exact .inr rfl | exact .inr ⟨rfl, rfl, rfl, by simp; done⟩ | exact .inr ⟨rfl, by simp; done⟩ | exact .inr ⟨rfl, rfl, by simp; done⟩ | apply And.intro)) (by repeat' (first | exact trivial | rfl | exact (tkC_ren.1 _ _).symm | (simp; done) | apply And.intro)) (by first | exact .inl rfl | (refine .inr ⟨trivial, ?_⟩; first | (intro row h; rcases List.mem_singleton.1 h with rfl; exact nvB _) | (intro row h; cases h; done) | (simp; done)) | (refine .inr ⟨by simp [nvP, nvP.nvPs, nvD, nilS, errno], ?_⟩; first | (intro row h; rcases List.mem_singleton.1 h with rfl; exact nvB _) | (intro row h; cases h; done) | (simp [nvRow, nvD, nvP]; done))) ?_
    simp only [numT, hk2, int, w1, tkC_ren, am, simprocAttr, tys]
    exact ⟨⟨(2, unfold' u, unfold' u2, some r2), .inr (.inr rfl)⟩, [], [0, 1, 2], ⟨rfl, rfl, by simp, (fun i hi => .inr ((by decide : ∀ i, i < 2 → ([0, 1, 2] : List Nat).getD i 0 = i) i hi)), ⟨.inr rfl, .inr rfl, .inr rfl, .inr rfl, .inr rfl, trivial⟩, ⟨.inr ⟨by decide, rfl⟩, .inr ⟨by decide, rfl⟩, .inr ⟨by decide, rfl⟩, trivial⟩, rfl, by decide, rfl, (by first | rfl | simp [scRow, tkC_scs])⟩, by show 2 - 2 < 2 - 1; omega⟩
  · simp only [Prod.mk.injEq] at hz
    obtain ⟨rfl, rfl, rfl, rfl⟩ := hz
    simp only [int, am, simprocAttr, tys]
    have w3 : IntKind.i64.wrap ((b.length : Int) - r2.length) = ((b.length - r2.length : Nat) : Int) := by rw [IntWalk.i64_in _ (by omega)]; omega
    have w4 : b.drop (b.length - r2.length) = r2 := by rw [hbr]; exact drop_tail _ _
    refine ACall.of (tkLeft (some r2)) [2] [] rfl (by simp) (by simp) (by simp) (by repeat' (first | exact trivial | exact .inl rfl | exact .inr rfl | exact .inr ⟨rfl, rfl, rfl, by simp; done⟩ | exact .inr ⟨rfl, by simp; done⟩ | exact .inr ⟨rfl, rfl, by simp; done⟩ | apply And.intro)) (by repeat' (first | exact trivial | rfl | exact (tkC_ren.1 _ _).symm | (simp; done) | apply And.intro)) (by first | exact .inl rfl | (refine .inr ⟨trivial, ?_⟩; first | (intro row h; rcases List.mem_singleton.1 h with rfl; exact nvB _) | (intro row h; cases h; done) | (simp; done)) | (refine .inr ⟨by simp [nvP, nvP.nvPs, nvD, nilS, errno], ?_⟩; first | (intro row h; rcases List.mem_singleton.1 h with rfl; exact nvB _) | (intro row h; cases h; done) | (simp [nvRow, nvD, nvP]; done))) ?_
    rcases hlz : (((r2.length : Nat) : Int) == 0) with _ | _
    case' false =>
      simp only [leftT, int, hlz, byts, tkC_ren, am, simprocAttr, tys]
    case' true =>
      have hE : endT (some r2) = 0 := by
        have : r2 = [] := List.eq_nil_of_length_eq_zero (by have := eq_of_beq hlz; omega)
        rw [this]; rfl
      simp only [leftT, int, hlz, tkC_ren, am, simprocAttr, tys]
      refine ACall.of (tkEnd (some r2)) [2] [] rfl (by simp) (by simp) (by simp) (by repeat' (first | exact trivial | exact .inl rfl | exact .inr rfl | exact .inr ⟨rfl, rfl, rfl, by simp; done⟩ | exact .inr ⟨rfl, by simp; done⟩ | exact .inr ⟨rfl, rfl, by simp; done⟩ | apply And.intro)) (by repeat' (first | exact trivial | rfl | exact (tkC_ren.1 _ _).symm | (simp; done) | apply And.intro)) (by first | exact .inl rfl | (refine .inr ⟨trivial, ?_⟩; first | (intro row h; rcases List.mem_singleton.1 h with rfl; exact nvB _) | (intro row h; cases h; done) | (simp; done)) | (refine .inr ⟨by simp [nvP, nvP.nvPs, nvD, nilS, errno], ?_⟩; first | (intro row h; rcases List.mem_singleton.1 h with rfl; exact nvB _) | (intro row h; cases h; done) | (simp [nvRow, nvD, nvP]; done))) ?_
      simp only [hE, errno, byts, tkC_ren, am, simprocAttr, tys]
    all_goals
      refine ACall.of (tkLeft (some r2)) [2] [] rfl (by simp) (by simp) (by simp) (by repeat' (first | exact trivial | exact .inl rfl | exact .inr rfl | exact .inr ⟨rfl, rfl, rfl, by simp; done⟩ | exact .inr ⟨rfl, by simp; done⟩ | exact .inr ⟨rfl, rfl, by simp; done⟩ | apply And.intro)) (by repeat' (first | exact trivial | rfl | exact (tkC_ren.1 _ _).symm | (simp; done) | apply And.intro)) (by first | exact .inl rfl | (refine .inr ⟨trivial, ?_⟩; first | (intro row h; rcases List.mem_singleton.1 h with rfl; exact nvB _) | (intro row h; cases h; done) | (simp; done)) | (refine .inr ⟨by simp [nvP, nvP.nvPs, nvD, nilS, errno], ?_⟩; first | (intro row h; rcases List.mem_singleton.1 h with rfl; exact nvB _) | (intro row h; cases h; done) | (simp [nvRow, nvD, nvP]; done))) ?_
      simp only [leftT, int, byts, w3, Int.natCast_nonneg, Int.toNat_natCast, ← List.map_take, ← List.map_drop, List.take_length, w4, tkC_ren, am, simprocAttr, tys]
      refine ⟨by omega, ?_⟩
      refine ACall.of (cloneB r2 (by omega)) [] [] rfl (by simp) (by simp) (by simp) (by repeat' (first | exact trivial | exact .inl rfl | exact .inr rfl | exact .inr ⟨rfl, rfl, rfl, by simp; done⟩ | exact .inr ⟨rfl, by simp; done⟩ | exact .inr ⟨rfl, rfl, by simp; done⟩ | apply And.intro)) (by repeat' (first | exact trivial | rfl | exact (tkC_ren.1 _ _).symm | (simp; done) | apply And.intro)) (by first | exact .inl rfl | (refine .inr ⟨trivial, ?_⟩; first | (intro row h; rcases List.mem_singleton.1 h with rfl; exact nvB _) | (intro row h; cases h; done) | (simp; done)) | (refine .inr ⟨by simp [nvP, nvP.nvPs, nvD, nilS, errno], ?_⟩; first | (intro row h; rcases List.mem_singleton.1 h with rfl; exact nvB _) | (intro row h; cases h; done) | (simp [nvRow, nvD, nvP]; done))) ?_
      simp only [bool, byts, FinR, evRes, evRVs, evRV, am, simprocAttr, tys]
      exact ⟨_, [], [0, 1], rfl, ⟨rfl, rfl, by simp, (fun i hi => .inr ((by decide : ∀ i, i < 2 → ([0, 1] : List Nat).getD i 0 = i) i hi)), trivial, ⟨.inr ⟨by decide, rfl⟩, .inr ⟨by decide, rfl⟩, trivial⟩, rfl, by decide, rfl, (by first | rfl | simp [scRow, tkC_scs])⟩, rfl, rfl⟩
end Go.Proofs.Ytflpphgccjlkjaa
