/- Proved here: what the functions of the program compute. No condition. -/
import Derived.Test.YtflpphgccjlkjaaG4
import Derived.Test.YtflpphgccjlkjaaG3
set_option linter.all false
set_option linter.unusedSimpArgs false
set_option linter.unusedVariables false
set_option linter.unusedSimpArgs false
set_option linter.unusedVariables false
namespace Go.Proofs.Ytflpphgccjlkjaa
open Go Go.AM

abbrev bx5 (c0 c1 c4 : DV) (x y : Int) : Row := .box [.d c0, .d c1, int x, int y, .d c4]

set_option maxRecDepth 8000 in
theorem ints1Y (c0 c1 c4 : DV) (x y : Int) (b : List UInt8) (hl : b.length ≤ 100000000) (u : Nat) (r : List UInt8) (hk : takeNum b = some (u, r)) :
    AFun Try.prog 87 [byts b, .own 1] [bx5 c0 c1 c4 x y, .box [.ptr 0 2]] (.tup [byts r, bool true]) [bx5 c0 c1 c4 (unfold' u) y, .box [.ptr 0 2]] := by
  refine AFun.of_walk hP Try.func87 rfl rfl rfl (by simp) rfl ?_
  obtain ⟨hu64, hbr⟩ := takeNum_some hk
  have hrl : r.length ≤ b.length := by rw [hbr]; simp
  simp only [Try.f87, bx5, int, am, simprocAttr, tys]
  refine ACall.of (octsNew b (by omega)) [] [] rfl (by simp) (by simp) (by simp) (by repeat' (first | exact trivial | exact .inl rfl | exact .inr rfl | exact .inr ⟨rfl, rfl, rfl, by simp; done⟩ | exact .inr ⟨rfl, by simp; done⟩ | exact .inr ⟨rfl, rfl, by simp; done⟩ | apply And.intro)) (by repeat' (first | exact trivial | rfl | exact (tkC_ren.1 _ _).symm | (simp; done) | apply And.intro)) (by first | exact .inl rfl | (refine .inr ⟨trivial, ?_⟩; first | (intro row h; rcases List.mem_singleton.1 h with rfl; exact nvB _) | (intro row h; cases h; done) | (simp; done)) | (refine .inr ⟨by simp [nvP, nvP.nvPs, nvD, nilS, errno], ?_⟩; first | (intro row h; rcases List.mem_singleton.1 h with rfl; exact nvB _) | (intro row h; cases h; done) | (simp [nvRow, nvD, nvP]; done))) ?_
  simp only [tkC_ren, am, simprocAttr, tys]
  refine ALoopW.intro 41 2 (ι := { z : Nat × Int × List UInt8 // z = (0, x, b) ∨ z = (1, unfold' u, r) }) (fun z => [(0, byts b), (6, .ptr 2 0), (11, .own 1), (12, int 1), (13, int z.1.1)])
    (fun z => [.box [.d c0, .d c1, int z.1.2.1, int y, .d c4], .box [.ptr 0 2], .box (tkC (some z.1.2.2))]) (fun z => 1 - z.1.1) ⟨(0, x, b), .inl rfl⟩ [] [0, 1, 2] ?_ (fun ⟨⟨k, v, t⟩, hz⟩ => ?_)
  · exact ⟨rfl, rfl, by simp, (fun i hi => .inr ((by decide : ∀ i, i < 2 → ([0, 1, 2] : List Nat).getD i 0 = i) i hi)), ⟨.inr rfl, .inr rfl, .inr rfl, .inr rfl, .inr rfl, trivial⟩, ⟨.inr ⟨by decide, rfl⟩, .inr ⟨by decide, rfl⟩, .inr ⟨by decide, rfl⟩, trivial⟩, rfl, by decide, rfl, (by first | rfl | simp [scRow, tkC_scs])⟩
  rcases hz with hz | hz
  · simp only [Prod.mk.injEq] at hz
    obtain ⟨rfl, rfl, rfl⟩ := hz
    simp only [int, am, simprocAttr, tys]
    have hb0 : (((t.length : Nat) : Int) == 0) = false := by
      rw [beq_eq_false_iff_ne]
      have : t ≠ [] := fun e => by rw [e] at hk; cases hk
      have := List.length_pos_iff.2 this
      omega
    have w1 : IntKind.i64.wrap ((0 : Int) + 1) = 1 := by decide
    refine ACall.of (tkLeft (some t)) [2] [] rfl (by simp) (by simp) (by simp) (by repeat' (first | exact trivial | exact .inl rfl | exact .inr rfl | exact .inr ⟨rfl, rfl, rfl, by simp; done⟩ | exact .inr ⟨rfl, by simp; done⟩ | exact .inr ⟨rfl, rfl, by simp; done⟩ | apply And.intro)) (by repeat' (first | exact trivial | rfl | exact (tkC_ren.1 _ _).symm | (simp; done) | apply And.intro)) (by first | exact .inl rfl | (refine .inr ⟨trivial, ?_⟩; first | (intro row h; rcases List.mem_singleton.1 h with rfl; exact nvB _) | (intro row h; cases h; done) | (simp; done)) | (refine .inr ⟨by simp [nvP, nvP.nvPs, nvD, nilS, errno], ?_⟩; first | (intro row h; rcases List.mem_singleton.1 h with rfl; exact nvB _) | (intro row h; cases h; done) | (simp [nvRow, nvD, nvP]; done))) ?_
    simp only [leftT, int, hb0, tkC_ren, am, simprocAttr, tys]
    refine ACall.of (tkInt (some t) (by intro bs h; cases h; omega)) [2] [] rfl (by simp) (by simp) (by simp) (by repeat' (first | exact trivial | exact .inl rfl | exact .inr rfl | exact .inr ⟨rfl, rfl, rfl, by simp; done⟩ | exact .inr ⟨rfl, by simp; done⟩ | exact .inr ⟨rfl, rfl, by simp; done⟩ | apply And.intro)) (by repeat' (first | exact trivial | rfl | exact (tkC_ren.1 _ _).symm | (simp; done) | apply And.intro)) (by first | exact .inl rfl | (refine .inr ⟨trivial, ?_⟩; first | (intro row h; rcases List.mem_singleton.1 h with rfl; exact nvB _) | (intro row h; cases h; done) | (simp; done)) | (refine .inr ⟨by simp [nvP, nvP.nvPs, nvD, nilS, errno], ?_⟩; first | (intro row h; rcases List.mem_singleton.1 h with rfl; exact nvB _) | (intro row h; cases h; done) | (simp [nvRow, nvD, nvP]; done))) ?_
    simp only [numT, hk, int, w1, tkC_ren, am, simprocAttr, tys]
    exact ⟨⟨(1, unfold' u, r), .inr rfl⟩, [], [0, 1, 2], ⟨rfl, rfl, by simp, (fun i hi => .inr ((by decide : ∀ i, i < 2 → ([0, 1, 2] : List Nat).getD i 0 = i) i hi)), ⟨.inr rfl, .inr rfl, .inr rfl, .inr rfl, .inr rfl, trivial⟩, ⟨.inr ⟨by decide, rfl⟩, .inr ⟨by decide, rfl⟩, .inr ⟨by decide, rfl⟩, trivial⟩, rfl, by decide, rfl, (by first | rfl | simp [scRow, tkC_scs])⟩, by show 1 - 1 < 1 - 0; omega⟩
  · simp only [Prod.mk.injEq] at hz
    obtain ⟨rfl, rfl, rfl⟩ := hz
    simp only [int, am, simprocAttr, tys]
    have w3 : IntKind.i64.wrap ((b.length : Int) - t.length) = ((b.length - t.length : Nat) : Int) := by rw [IntWalk.i64_in _ (by omega)]; omega
    have w4 : b.drop (b.length - t.length) = t := by rw [hbr]; exact drop_tail _ _
    refine ACall.of (tkLeft (some t)) [2] [] rfl (by simp) (by simp) (by simp) (by repeat' (first | exact trivial | exact .inl rfl | exact .inr rfl | exact .inr ⟨rfl, rfl, rfl, by simp; done⟩ | exact .inr ⟨rfl, by simp; done⟩ | exact .inr ⟨rfl, rfl, by simp; done⟩ | apply And.intro)) (by repeat' (first | exact trivial | rfl | exact (tkC_ren.1 _ _).symm | (simp; done) | apply And.intro)) (by first | exact .inl rfl | (refine .inr ⟨trivial, ?_⟩; first | (intro row h; rcases List.mem_singleton.1 h with rfl; exact nvB _) | (intro row h; cases h; done) | (simp; done)) | (refine .inr ⟨by simp [nvP, nvP.nvPs, nvD, nilS, errno], ?_⟩; first | (intro row h; rcases List.mem_singleton.1 h with rfl; exact nvB _) | (intro row h; cases h; done) | (simp [nvRow, nvD, nvP]; done))) ?_
    rcases hlz : (((t.length : Nat) : Int) == 0) with _ | _
    case' false =>
      simp only [leftT, int, hlz, byts, tkC_ren, am, simprocAttr, tys]
    case' true =>
      have hE : endT (some t) = 0 := by
        have : t = [] := List.eq_nil_of_length_eq_zero (by have := eq_of_beq hlz; omega)
        rw [this]; rfl
      simp only [leftT, int, hlz, tkC_ren, am, simprocAttr, tys]
      refine ACall.of (tkEnd (some t)) [2] [] rfl (by simp) (by simp) (by simp) (by repeat' (first | exact trivial | exact .inl rfl | exact .inr rfl | exact .inr ⟨rfl, rfl, rfl, by simp; done⟩ | exact .inr ⟨rfl, by simp; done⟩ | exact .inr ⟨rfl, rfl, by simp; done⟩ | apply And.intro)) (by repeat' (first | exact trivial | rfl | exact (tkC_ren.1 _ _).symm | (simp; done) | apply And.intro)) (by first | exact .inl rfl | (refine .inr ⟨trivial, ?_⟩; first | (intro row h; rcases List.mem_singleton.1 h with rfl; exact nvB _) | (intro row h; cases h; done) | (simp; done)) | (refine .inr ⟨by simp [nvP, nvP.nvPs, nvD, nilS, errno], ?_⟩; first | (intro row h; rcases List.mem_singleton.1 h with rfl; exact nvB _) | (intro row h; cases h; done) | (simp [nvRow, nvD, nvP]; done))) ?_
      simp only [hE, errno, byts, tkC_ren, am, simprocAttr, tys]
    all_goals
      refine ACall.of (tkLeft (some t)) [2] [] rfl (by simp) (by simp) (by simp) (by repeat' (first | exact trivial | exact .inl rfl | exact .inr rfl | exact .inr ⟨rfl, rfl, rfl, by simp; done⟩ | exact .inr ⟨rfl, by simp; done⟩ | exact .inr ⟨rfl, rfl, by simp; done⟩ | apply And.intro)) (by repeat' (first | exact trivial | rfl | exact (tkC_ren.1 _ _).symm | (simp; done) | apply And.intro)) (by first | exact .inl rfl | (refine .inr ⟨trivial, ?_⟩; first | (intro row h; rcases List.mem_singleton.1 h with rfl; exact nvB _) | (intro row h; cases h; done) | (simp; done)) | (refine .inr ⟨by simp [nvP, nvP.nvPs, nvD, nilS, errno], ?_⟩; first | (intro row h; rcases List.mem_singleton.1 h with rfl; exact nvB _) | (intro row h; cases h; done) | (simp [nvRow, nvD, nvP]; done))) ?_
      simp only [leftT, int, byts, w3, Int.natCast_nonneg, Int.toNat_natCast, ← List.map_take, ← List.map_drop, List.take_length, w4, tkC_ren, am, simprocAttr, tys]
      refine ⟨by omega, ?_⟩
      refine ACall.of (cloneB t (by omega)) [] [] rfl (by simp) (by simp) (by simp) (by repeat' (first | exact trivial | exact .inl rfl | exact .inr rfl | exact .inr ⟨rfl, rfl, rfl, by simp; done⟩ | exact .inr ⟨rfl, by simp; done⟩ | exact .inr ⟨rfl, rfl, by simp; done⟩ | apply And.intro)) (by repeat' (first | exact trivial | rfl | exact (tkC_ren.1 _ _).symm | (simp; done) | apply And.intro)) (by first | exact .inl rfl | (refine .inr ⟨trivial, ?_⟩; first | (intro row h; rcases List.mem_singleton.1 h with rfl; exact nvB _) | (intro row h; cases h; done) | (simp; done)) | (refine .inr ⟨by simp [nvP, nvP.nvPs, nvD, nilS, errno], ?_⟩; first | (intro row h; rcases List.mem_singleton.1 h with rfl; exact nvB _) | (intro row h; cases h; done) | (simp [nvRow, nvD, nvP]; done))) ?_
      simp only [bool, byts, FinR, evRes, evRVs, evRV, am, simprocAttr, tys]
      exact ⟨_, [], [0, 1], rfl, ⟨rfl, rfl, by simp, (fun i hi => .inr ((by decide : ∀ i, i < 2 → ([0, 1] : List Nat).getD i 0 = i) i hi)), trivial, ⟨.inr ⟨by decide, rfl⟩, .inr ⟨by decide, rfl⟩, trivial⟩, rfl, by decide, rfl, (by first | rfl | simp [scRow, tkC_scs])⟩, rfl, rfl⟩

set_option maxRecDepth 8000 in
theorem ints1E (c0 c1 c4 : DV) (x y : Int) (b : List UInt8) (hl : b.length ≤ 100000000) (h0 : b = []) :
    AFun Try.prog 87 [byts b, .own 1] [bx5 c0 c1 c4 x y, .box [.ptr 0 2]] (.tup [nilS, bool false]) [bx5 c0 c1 c4 (x) (y), .box [.ptr 0 2]] := by
  subst h0
  refine AFun.of_walk hP Try.func87 rfl rfl rfl (by simp) rfl ?_
  simp only [Try.f87, bx5, int, am, simprocAttr, tys]
  refine ACall.of (octsNew [] (by omega)) [] [] rfl (by simp) (by simp) (by simp) (by repeat' (first | exact trivial | exact .inl rfl | exact .inr rfl | exact .inr ⟨rfl, rfl, rfl, by simp; done⟩ | exact .inr ⟨rfl, by simp; done⟩ | exact .inr ⟨rfl, rfl, by simp; done⟩ | apply And.intro)) (by repeat' (first | exact trivial | rfl | exact (tkC_ren.1 _ _).symm | (simp; done) | apply And.intro)) (by first | exact .inl rfl | (refine .inr ⟨trivial, ?_⟩; first | (intro row h; rcases List.mem_singleton.1 h with rfl; exact nvB _) | (intro row h; cases h; done) | (simp; done)) | (refine .inr ⟨by simp [nvP, nvP.nvPs, nvD, nilS, errno], ?_⟩; first | (intro row h; rcases List.mem_singleton.1 h with rfl; exact nvB _) | (intro row h; cases h; done) | (simp [nvRow, nvD, nvP]; done))) ?_
  simp only [tkC_ren, am, simprocAttr, tys]
  refine ALoopW.intro 41 2 (ι := { z : Nat × Int × Int × Tk // z = (0, x, y, some []) }) (fun z => [(0, byts []), (6, .ptr 2 0), (11, .own 1), (12, int 1), (13, int z.1.1)])
    (fun z => [.box [.d c0, .d c1, int z.1.2.1, int z.1.2.2.1, .d c4], .box [.ptr 0 2], .box (tkC z.1.2.2.2)]) (fun z => 1 - z.1.1) ⟨(0, x, y, some []), rfl⟩ [] [0, 1, 2] ?_ (fun ⟨⟨k, v, w, t⟩, hz⟩ => ?_)
  · exact ⟨rfl, rfl, by simp, (fun i hi => .inr ((by decide : ∀ i, i < 2 → ([0, 1, 2] : List Nat).getD i 0 = i) i hi)), ⟨.inr rfl, .inr rfl, .inr rfl, .inr rfl, .inr rfl, trivial⟩, ⟨.inr ⟨by decide, rfl⟩, .inr ⟨by decide, rfl⟩, .inr ⟨by decide, rfl⟩, trivial⟩, rfl, by decide, rfl, (by first | rfl | simp [scRow, tkC_scs])⟩
  · simp only [Prod.mk.injEq] at hz
    obtain ⟨rfl, rfl, rfl, rfl⟩ := hz
    simp only [int, am, simprocAttr, tys]
    refine ACall.of (tkLeft (some [])) [2] [] rfl (by simp) (by simp) (by simp) (by repeat' (first | exact trivial | exact .inl rfl | exact .inr rfl | exact .inr ⟨rfl, rfl, rfl, by simp; done⟩ | exact .inr ⟨rfl, by simp; done⟩ | exact .inr ⟨rfl, rfl, by simp; done⟩ | apply And.intro)) (by repeat' (first | exact trivial | rfl | exact (tkC_ren.1 _ _).symm | (simp; done) | apply And.intro)) (by first | exact .inl rfl | (refine .inr ⟨trivial, ?_⟩; first | (intro row h; rcases List.mem_singleton.1 h with rfl; exact nvB _) | (intro row h; cases h; done) | (simp; done)) | (refine .inr ⟨by simp [nvP, nvP.nvPs, nvD, nilS, errno], ?_⟩; first | (intro row h; rcases List.mem_singleton.1 h with rfl; exact nvB _) | (intro row h; cases h; done) | (simp [nvRow, nvD, nvP]; done))) ?_
    simp only [leftT, int, List.length_nil, nilS, bool, tkC_ren, FinR, evRes, evRVs, evRV, am, simprocAttr, tys]
    exact ⟨_, [], [0, 1], rfl, ⟨rfl, rfl, by simp, (fun i hi => .inr ((by decide : ∀ i, i < 2 → ([0, 1] : List Nat).getD i 0 = i) i hi)), trivial, ⟨.inr ⟨by decide, rfl⟩, .inr ⟨by decide, rfl⟩, trivial⟩, rfl, by decide, rfl, (by first | rfl | simp [scRow, tkC_scs])⟩, rfl, rfl⟩

set_option maxRecDepth 8000 in
theorem ints2E (c0 c1 c4 : DV) (x y : Int) (b : List UInt8) (hl : b.length ≤ 100000000) (h0 : b = []) :
    AFun Try.prog 87 [byts b, .own 1] [bx5 c0 c1 c4 x y, .box [.ptr 0 2, .ptr 0 3]] (.tup [nilS, bool false]) [bx5 c0 c1 c4 (x) (y), .box [.ptr 0 2, .ptr 0 3]] := by
  subst h0
  refine AFun.of_walk hP Try.func87 rfl rfl rfl (by simp) rfl ?_
  simp only [Try.f87, bx5, int, am, simprocAttr, tys]
  refine ACall.of (octsNew [] (by omega)) [] [] rfl (by simp) (by simp) (by simp) (by repeat' (first | exact trivial | exact .inl rfl | exact .inr rfl | exact .inr ⟨rfl, rfl, rfl, by simp; done⟩ | exact .inr ⟨rfl, by simp; done⟩ | exact .inr ⟨rfl, rfl, by simp; done⟩ | apply And.intro)) (by repeat' (first | exact trivial | rfl | exact (tkC_ren.1 _ _).symm | (simp; done) | apply And.intro)) (by first | exact .inl rfl | (refine .inr ⟨trivial, ?_⟩; first | (intro row h; rcases List.mem_singleton.1 h with rfl; exact nvB _) | (intro row h; cases h; done) | (simp; done)) | (refine .inr ⟨by simp [nvP, nvP.nvPs, nvD, nilS, errno], ?_⟩; first | (intro row h; rcases List.mem_singleton.1 h with rfl; exact nvB _) | (intro row h; cases h; done) | (simp [nvRow, nvD, nvP]; done))) ?_
  simp only [tkC_ren, am, simprocAttr, tys]
  refine ALoopW.intro 41 2 (ι := { z : Nat × Int × Int × Tk // z = (0, x, y, some []) }) (fun z => [(0, byts []), (6, .ptr 2 0), (11, .own 1), (12, int 2), (13, int z.1.1)])
    (fun z => [.box [.d c0, .d c1, int z.1.2.1, int z.1.2.2.1, .d c4], .box [.ptr 0 2, .ptr 0 3], .box (tkC z.1.2.2.2)]) (fun z => 2 - z.1.1) ⟨(0, x, y, some []), rfl⟩ [] [0, 1, 2] ?_ (fun ⟨⟨k, v, w, t⟩, hz⟩ => ?_)
  · exact ⟨rfl, rfl, by simp, (fun i hi => .inr ((by decide : ∀ i, i < 2 → ([0, 1, 2] : List Nat).getD i 0 = i) i hi)), ⟨.inr rfl, .inr rfl, .inr rfl, .inr rfl, .inr rfl, trivial⟩, ⟨.inr ⟨by decide, rfl⟩, .inr ⟨by decide, rfl⟩, .inr ⟨by decide, rfl⟩, trivial⟩, rfl, by decide, rfl, (by first | rfl | simp [scRow, tkC_scs])⟩
  · simp only [Prod.mk.injEq] at hz
    obtain ⟨rfl, rfl, rfl, rfl⟩ := hz
    simp only [int, am, simprocAttr, tys]
    refine ACall.of (tkLeft (some [])) [2] [] rfl (by simp) (by simp) (by simp) (by repeat' (first | exact trivial | exact .inl rfl | exact .inr rfl | exact .inr ⟨rfl, rfl, rfl, by simp; done⟩ | exact .inr ⟨rfl, by simp; done⟩ | exact .inr ⟨rfl, rfl, by simp; done⟩ | apply And.intro)) (by repeat' (first | exact trivial | rfl | exact (tkC_ren.1 _ _).symm | (simp; done) | apply And.intro)) (by first | exact .inl rfl | (refine .inr ⟨trivial, ?_⟩; first | (intro row h; rcases List.mem_singleton.1 h with rfl; exact nvB _) | (intro row h; cases h; done) | (simp; done)) | (refine .inr ⟨by simp [nvP, nvP.nvPs, nvD, nilS, errno], ?_⟩; first | (intro row h; rcases List.mem_singleton.1 h with rfl; exact nvB _) | (intro row h; cases h; done) | (simp [nvRow, nvD, nvP]; done))) ?_
    simp only [leftT, int, List.length_nil, nilS, bool, tkC_ren, FinR, evRes, evRVs, evRV, am, simprocAttr, tys]
    exact ⟨_, [], [0, 1], rfl, ⟨rfl, rfl, by simp, (fun i hi => .inr ((by decide : ∀ i, i < 2 → ([0, 1] : List Nat).getD i 0 = i) i hi)), trivial, ⟨.inr ⟨by decide, rfl⟩, .inr ⟨by decide, rfl⟩, trivial⟩, rfl, by decide, rfl, (by first | rfl | simp [scRow, tkC_scs])⟩, rfl, rfl⟩

set_option maxRecDepth 8000 in
theorem ints1M (c0 c1 c4 : DV) (x y : Int) (b : List UInt8) (hl : b.length ≤ 100000000) (h0 : b ≠ []) (hk : takeNum b = none) :
    AFun Try.prog 87 [byts b, .own 1] [bx5 c0 c1 c4 x y, .box [.ptr 0 2]] (.tup [nilS, bool false]) [bx5 c0 c1 c4 (unfold' 0) (y), .box [.ptr 0 2]] := by
  refine AFun.of_walk hP Try.func87 rfl rfl rfl (by simp) rfl ?_
  simp only [Try.f87, bx5, int, am, simprocAttr, tys]
  refine ACall.of (octsNew b (by omega)) [] [] rfl (by simp) (by simp) (by simp) (by repeat' (first | exact trivial | exact .inl rfl | exact .inr rfl | exact .inr ⟨rfl, rfl, rfl, by simp; done⟩ | exact .inr ⟨rfl, by simp; done⟩ | exact .inr ⟨rfl, rfl, by simp; done⟩ | apply And.intro)) (by repeat' (first | exact trivial | rfl | exact (tkC_ren.1 _ _).symm | (simp; done) | apply And.intro)) (by first | exact .inl rfl | (refine .inr ⟨trivial, ?_⟩; first | (intro row h; rcases List.mem_singleton.1 h with rfl; exact nvB _) | (intro row h; cases h; done) | (simp; done)) | (refine .inr ⟨by simp [nvP, nvP.nvPs, nvD, nilS, errno], ?_⟩; first | (intro row h; rcases List.mem_singleton.1 h with rfl; exact nvB _) | (intro row h; cases h; done) | (simp [nvRow, nvD, nvP]; done))) ?_
  simp only [tkC_ren, am, simprocAttr, tys]
  refine ALoopW.intro 41 2 (ι := { z : Nat × Int × Int × Tk // z = (0, x, y, some b) ∨ z = (1, unfold' 0, y, none) }) (fun z => [(0, byts b), (6, .ptr 2 0), (11, .own 1), (12, int 1), (13, int z.1.1)])
    (fun z => [.box [.d c0, .d c1, int z.1.2.1, int z.1.2.2.1, .d c4], .box [.ptr 0 2], .box (tkC z.1.2.2.2)]) (fun z => 1 - z.1.1) ⟨(0, x, y, some b), .inl rfl⟩ [] [0, 1, 2] ?_ (fun ⟨⟨k, v, w, t⟩, hz⟩ => ?_)
  · exact ⟨rfl, rfl, by simp, (fun i hi => .inr ((by decide : ∀ i, i < 2 → ([0, 1, 2] : List Nat).getD i 0 = i) i hi)), ⟨.inr rfl, .inr rfl, .inr rfl, .inr rfl, .inr rfl, trivial⟩, ⟨.inr ⟨by decide, rfl⟩, .inr ⟨by decide, rfl⟩, .inr ⟨by decide, rfl⟩, trivial⟩, rfl, by decide, rfl, (by first | rfl | simp [scRow, tkC_scs])⟩
  rcases hz with hz | hz
  · simp only [Prod.mk.injEq] at hz
    obtain ⟨rfl, rfl, rfl, rfl⟩ := hz
    simp only [int, am, simprocAttr, tys]
    have hb0 : (((b.length : Nat) : Int) == 0) = false := by
      rw [beq_eq_false_iff_ne]
      have : b ≠ [] := h0
      have := List.length_pos_iff.2 this
      omega
    have w1 : IntKind.i64.wrap ((0 : Int) + 1) = 1 := by decide
    refine ACall.of (tkLeft (some b)) [2] [] rfl (by simp) (by simp) (by simp) (by repeat' (first | exact trivial | exact .inl rfl | exact .inr rfl | exact .inr ⟨rfl, rfl, rfl, by simp; done⟩ | exact .inr ⟨rfl, by simp; done⟩ | exact .inr ⟨rfl, rfl, by simp; done⟩ | apply And.intro)) (by repeat' (first | exact trivial | rfl | exact (tkC_ren.1 _ _).symm | (simp; done) | apply And.intro)) (by first | exact .inl rfl | (refine .inr ⟨trivial, ?_⟩; first | (intro row h; rcases List.mem_singleton.1 h with rfl; exact nvB _) | (intro row h; cases h; done) | (simp; done)) | (refine .inr ⟨by simp [nvP, nvP.nvPs, nvD, nilS, errno], ?_⟩; first | (intro row h; rcases List.mem_singleton.1 h with rfl; exact nvB _) | (intro row h; cases h; done) | (simp [nvRow, nvD, nvP]; done))) ?_
    simp only [leftT, int, hb0, tkC_ren, am, simprocAttr, tys]
    refine ACall.of (tkInt (some b) (by intro bs h; cases h; omega)) [2] [] rfl (by simp) (by simp) (by simp) (by repeat' (first | exact trivial | exact .inl rfl | exact .inr rfl | exact .inr ⟨rfl, rfl, rfl, by simp; done⟩ | exact .inr ⟨rfl, by simp; done⟩ | exact .inr ⟨rfl, rfl, by simp; done⟩ | apply And.intro)) (by repeat' (first | exact trivial | rfl | exact (tkC_ren.1 _ _).symm | (simp; done) | apply And.intro)) (by first | exact .inl rfl | (refine .inr ⟨trivial, ?_⟩; first | (intro row h; rcases List.mem_singleton.1 h with rfl; exact nvB _) | (intro row h; cases h; done) | (simp; done)) | (refine .inr ⟨by simp [nvP, nvP.nvPs, nvD, nilS, errno], ?_⟩; first | (intro row h; rcases List.mem_singleton.1 h with rfl; exact nvB _) | (intro row h; cases h; done) | (simp [nvRow, nvD, nvP]; done))) ?_
    simp only [numT, hk, int, w1, tkC_ren, am, simprocAttr, tys]
    exact ⟨⟨(1, unfold' 0, _, none), .inr rfl⟩, [], [0, 1, 2], ⟨rfl, rfl, by simp, (fun i hi => .inr ((by decide : ∀ i, i < 2 → ([0, 1, 2] : List Nat).getD i 0 = i) i hi)), ⟨.inr rfl, .inr rfl, .inr rfl, .inr rfl, .inr rfl, trivial⟩, ⟨.inr ⟨by decide, rfl⟩, .inr ⟨by decide, rfl⟩, .inr ⟨by decide, rfl⟩, trivial⟩, rfl, by decide, rfl, (by first | rfl | simp [scRow, tkC_scs])⟩, by show 1 - 1 < 1 - 0; omega⟩
  · simp only [Prod.mk.injEq] at hz
    obtain ⟨rfl, rfl, rfl, rfl⟩ := hz
    simp only [int, am, simprocAttr, tys]
    refine ACall.of (tkLeft none) [2] [] rfl (by simp) (by simp) (by simp) (by repeat' (first | exact trivial | exact .inl rfl | exact .inr rfl | exact .inr ⟨rfl, rfl, rfl, by simp; done⟩ | exact .inr ⟨rfl, by simp; done⟩ | exact .inr ⟨rfl, rfl, by simp; done⟩ | apply And.intro)) (by repeat' (first | exact trivial | rfl | exact (tkC_ren.1 _ _).symm | (simp; done) | apply And.intro)) (by first | exact .inl rfl | (refine .inr ⟨trivial, ?_⟩; first | (intro row h; rcases List.mem_singleton.1 h with rfl; exact nvB _) | (intro row h; cases h; done) | (simp; done)) | (refine .inr ⟨by simp [nvP, nvP.nvPs, nvD, nilS, errno], ?_⟩; first | (intro row h; rcases List.mem_singleton.1 h with rfl; exact nvB _) | (intro row h; cases h; done) | (simp [nvRow, nvD, nvP]; done))) ?_
    simp only [leftT, int, tkC_ren, am, simprocAttr, tys]
    refine ACall.of (tkEnd none) [2] [] rfl (by simp) (by simp) (by simp) (by repeat' (first | exact trivial | exact .inl rfl | exact .inr rfl | exact .inr ⟨rfl, rfl, rfl, by simp; done⟩ | exact .inr ⟨rfl, by simp; done⟩ | exact .inr ⟨rfl, rfl, by simp; done⟩ | apply And.intro)) (by repeat' (first | exact trivial | rfl | exact (tkC_ren.1 _ _).symm | (simp; done) | apply And.intro)) (by first | exact .inl rfl | (refine .inr ⟨trivial, ?_⟩; first | (intro row h; rcases List.mem_singleton.1 h with rfl; exact nvB _) | (intro row h; cases h; done) | (simp; done)) | (refine .inr ⟨by simp [nvP, nvP.nvPs, nvD, nilS, errno], ?_⟩; first | (intro row h; rcases List.mem_singleton.1 h with rfl; exact nvB _) | (intro row h; cases h; done) | (simp [nvRow, nvD, nvP]; done))) ?_
    simp only [endT, errno, nilS, bool, tkC_ren, FinR, evRes, evRVs, evRV, am, simprocAttr, tys]
    exact ⟨_, [], [0, 1], rfl, ⟨rfl, rfl, by simp, (fun i hi => .inr ((by decide : ∀ i, i < 2 → ([0, 1] : List Nat).getD i 0 = i) i hi)), trivial, ⟨.inr ⟨by decide, rfl⟩, .inr ⟨by decide, rfl⟩, trivial⟩, rfl, by decide, rfl, (by first | rfl | simp [scRow, tkC_scs])⟩, rfl, rfl⟩

set_option maxRecDepth 8000 in
theorem ints2M (c0 c1 c4 : DV) (x y : Int) (b : List UInt8) (hl : b.length ≤ 100000000) (h0 : b ≠ []) (hk : takeNum b = none) :
    AFun Try.prog 87 [byts b, .own 1] [bx5 c0 c1 c4 x y, .box [.ptr 0 2, .ptr 0 3]] (.tup [nilS, bool false]) [bx5 c0 c1 c4 (unfold' 0) (y), .box [.ptr 0 2, .ptr 0 3]] := by
  refine AFun.of_walk hP Try.func87 rfl rfl rfl (by simp) rfl ?_
  simp only [Try.f87, bx5, int, am, simprocAttr, tys]
  refine ACall.of (octsNew b (by omega)) [] [] rfl (by simp) (by simp) (by simp) (by repeat' (first | exact trivial | exact .inl rfl | exact .inr rfl | exact .inr ⟨rfl, rfl, rfl, by simp; done⟩ | exact .inr ⟨rfl, by simp; done⟩ | exact .inr ⟨rfl, rfl, by simp; done⟩ | apply And.intro)) (by repeat' (first | exact trivial | rfl | exact (tkC_ren.1 _ _).symm | (simp; done) | apply And.intro)) (by first | exact .inl rfl | (refine .inr ⟨trivial, ?_⟩; first | (intro row h; rcases List.mem_singleton.1 h with rfl; exact nvB _) | (intro row h; cases h; done) | (simp; done)) | (refine .inr ⟨by simp [nvP, nvP.nvPs, nvD, nilS, errno], ?_⟩; first | (intro row h; rcases List.mem_singleton.1 h with rfl; exact nvB _) | (intro row h; cases h; done) | (simp [nvRow, nvD, nvP]; done))) ?_
  simp only [tkC_ren, am, simprocAttr, tys]
  refine ALoopW.intro 41 2 (ι := { z : Nat × Int × Int × Tk // z = (0, x, y, some b) ∨ z = (1, unfold' 0, y, none) }) (fun z => [(0, byts b), (6, .ptr 2 0), (11, .own 1), (12, int 2), (13, int z.1.1)])
    (fun z => [.box [.d c0, .d c1, int z.1.2.1, int z.1.2.2.1, .d c4], .box [.ptr 0 2, .ptr 0 3], .box (tkC z.1.2.2.2)]) (fun z => 2 - z.1.1) ⟨(0, x, y, some b), .inl rfl⟩ [] [0, 1, 2] ?_ (fun ⟨⟨k, v, w, t⟩, hz⟩ => ?_)
  · exact ⟨rfl, rfl, by simp, (fun i hi => .inr ((by decide : ∀ i, i < 2 → ([0, 1, 2] : List Nat).getD i 0 = i) i hi)), ⟨.inr rfl, .inr rfl, .inr rfl, .inr rfl, .inr rfl, trivial⟩, ⟨.inr ⟨by decide, rfl⟩, .inr ⟨by decide, rfl⟩, .inr ⟨by decide, rfl⟩, trivial⟩, rfl, by decide, rfl, (by first | rfl | simp [scRow, tkC_scs])⟩
  rcases hz with hz | hz
  · simp only [Prod.mk.injEq] at hz
    obtain ⟨rfl, rfl, rfl, rfl⟩ := hz
    simp only [int, am, simprocAttr, tys]
    have hb0 : (((b.length : Nat) : Int) == 0) = false := by
      rw [beq_eq_false_iff_ne]
      have : b ≠ [] := h0
      have := List.length_pos_iff.2 this
      omega
    have w1 : IntKind.i64.wrap ((0 : Int) + 1) = 1 := by decide
    refine ACall.of (tkLeft (some b)) [2] [] rfl (by simp) (by simp) (by simp) (by repeat' (first | exact trivial | exact .inl rfl | exact .inr rfl | exact .inr ⟨rfl, rfl, rfl, by simp; done⟩ | exact .inr ⟨rfl, by simp; done⟩ | exact .inr ⟨rfl, rfl, by simp; done⟩ | apply And.intro)) (by repeat' (first | exact trivial | rfl | exact (tkC_ren.1 _ _).symm | (simp; done) | apply And.intro)) (by first | exact .inl rfl | (refine .inr ⟨trivial, ?_⟩; first | (intro row h; rcases List.mem_singleton.1 h with rfl; exact nvB _) | (intro row h; cases h; done) | (simp; done)) | (refine .inr ⟨by simp [nvP, nvP.nvPs, nvD, nilS, errno], ?_⟩; first | (intro row h; rcases List.mem_singleton.1 h with rfl; exact nvB _) | (intro row h; cases h; done) | (simp [nvRow, nvD, nvP]; done))) ?_
    simp only [leftT, int, hb0, tkC_ren, am, simprocAttr, tys]
    refine ACall.of (tkInt (some b) (by intro bs h; cases h; omega)) [2] [] rfl (by simp) (by simp) (by simp) (by repeat' (first | exact trivial | exact .inl rfl | exact .inr rfl | exact .inr ⟨rfl, rfl, rfl, by simp; done⟩ | exact .inr ⟨rfl, by simp; done⟩ | exact .inr ⟨rfl, rfl, by simp; done⟩ | apply And.intro)) (by repeat' (first | exact trivial | rfl | exact (tkC_ren.1 _ _).symm | (simp; done) | apply And.intro)) (by first | exact .inl rfl | (refine .inr ⟨trivial, ?_⟩; first | (intro row h; rcases List.mem_singleton.1 h with rfl; exact nvB _) | (intro row h; cases h; done) | (simp; done)) | (refine .inr ⟨by simp [nvP, nvP.nvPs, nvD, nilS, errno], ?_⟩; first | (intro row h; rcases List.mem_singleton.1 h with rfl; exact nvB _) | (intro row h; cases h; done) | (simp [nvRow, nvD, nvP]; done))) ?_
    simp only [numT, hk, int, w1, tkC_ren, am, simprocAttr, tys]
    exact ⟨⟨(1, unfold' 0, _, none), .inr rfl⟩, [], [0, 1, 2], ⟨rfl, rfl, by simp, (fun i hi => .inr ((by decide : ∀ i, i < 2 → ([0, 1, 2] : List Nat).getD i 0 = i) i hi)), ⟨.inr rfl, .inr rfl, .inr rfl, .inr rfl, .inr rfl, trivial⟩, ⟨.inr ⟨by decide, rfl⟩, .inr ⟨by decide, rfl⟩, .inr ⟨by decide, rfl⟩, trivial⟩, rfl, by decide, rfl, (by first | rfl | simp [scRow, tkC_scs])⟩, by show 2 - 1 < 2 - 0; omega⟩
  · simp only [Prod.mk.injEq] at hz
    obtain ⟨rfl, rfl, rfl, rfl⟩ := hz
    simp only [int, am, simprocAttr, tys]
    refine ACall.of (tkLeft none) [2] [] rfl (by simp) (by simp) (by simp) (by repeat' (first | exact trivial | exact .inl rfl | exact .inr rfl | exact .inr ⟨rfl, rfl, rfl, by simp; done⟩ | exact .inr ⟨rfl, by simp; done⟩ | exact .inr ⟨rfl, rfl, by simp; done⟩ | apply And.intro)) (by repeat' (first | exact trivial | rfl | exact (tkC_ren.1 _ _).symm | (simp; done) | apply And.intro)) (by first | exact .inl rfl | (refine .inr ⟨trivial, ?_⟩; first | (intro row h; rcases List.mem_singleton.1 h with rfl; exact nvB _) | (intro row h; cases h; done) | (simp; done)) | (refine .inr ⟨by simp [nvP, nvP.nvPs, nvD, nilS, errno], ?_⟩; first | (intro row h; rcases List.mem_singleton.1 h with rfl; exact nvB _) | (intro row h; cases h; done) | (simp [nvRow, nvD, nvP]; done))) ?_
    simp only [leftT, int, List.length_nil, nilS, bool, tkC_ren, FinR, evRes, evRVs, evRV, am, simprocAttr, tys]
    exact ⟨_, [], [0, 1], rfl, ⟨rfl, rfl, by simp, (fun i hi => .inr ((by decide : ∀ i, i < 2 → ([0, 1] : List Nat).getD i 0 = i) i hi)), trivial, ⟨.inr ⟨by decide, rfl⟩, .inr ⟨by decide, rfl⟩, trivial⟩, rfl, by decide, rfl, (by first | rfl | simp [scRow, tkC_scs])⟩, rfl, rfl⟩

set_option maxRecDepth 8000 in
theorem ints2F (c0 c1 c4 : DV) (x y : Int) (b : List UInt8) (hl : b.length ≤ 100000000) (u : Nat) (hk : takeNum b = some (u, [])) :
    AFun Try.prog 87 [byts b, .own 1] [bx5 c0 c1 c4 x y, .box [.ptr 0 2, .ptr 0 3]] (.tup [nilS, bool false]) [bx5 c0 c1 c4 (unfold' u) (y), .box [.ptr 0 2, .ptr 0 3]] := by
  refine AFun.of_walk hP Try.func87 rfl rfl rfl (by simp) rfl ?_
  simp only [Try.f87, bx5, int, am, simprocAttr, tys]
  refine ACall.of (octsNew b (by omega)) [] [] rfl (by simp) (by simp) (by simp) (by repeat' (first | exact trivial | exact .inl rfl | exact .inr rfl | exact .inr ⟨rfl, rfl, rfl, by simp; done⟩ | exact .inr ⟨rfl, by simp; done⟩ | exact .inr ⟨rfl, rfl, by simp; done⟩ | apply And.intro)) (by repeat' (first | exact trivial | rfl | exact (tkC_ren.1 _ _).symm | (simp; done) | apply And.intro)) (by first | exact .inl rfl | (refine .inr ⟨trivial, ?_⟩; first | (intro row h; rcases List.mem_singleton.1 h with rfl; exact nvB _) | (intro row h; cases h; done) | (simp; done)) | (refine .inr ⟨by simp [nvP, nvP.nvPs, nvD, nilS, errno], ?_⟩; first | (intro row h; rcases List.mem_singleton.1 h with rfl; exact nvB _) | (intro row h; cases h; done) | (simp [nvRow, nvD, nvP]; done))) ?_
  simp only [tkC_ren, am, simprocAttr, tys]
  refine ALoopW.intro 41 2 (ι := { z : Nat × Int × Int × Tk // z = (0, x, y, some b) ∨ z = (1, unfold' u, y, some []) }) (fun z => [(0, byts b), (6, .ptr 2 0), (11, .own 1), (12, int 2), (13, int z.1.1)])
    (fun z => [.box [.d c0, .d c1, int z.1.2.1, int z.1.2.2.1, .d c4], .box [.ptr 0 2, .ptr 0 3], .box (tkC z.1.2.2.2)]) (fun z => 2 - z.1.1) ⟨(0, x, y, some b), .inl rfl⟩ [] [0, 1, 2] ?_ (fun ⟨⟨k, v, w, t⟩, hz⟩ => ?_)
  · exact ⟨rfl, rfl, by simp, (fun i hi => .inr ((by decide : ∀ i, i < 2 → ([0, 1, 2] : List Nat).getD i 0 = i) i hi)), ⟨.inr rfl, .inr rfl, .inr rfl, .inr rfl, .inr rfl, trivial⟩, ⟨.inr ⟨by decide, rfl⟩, .inr ⟨by decide, rfl⟩, .inr ⟨by decide, rfl⟩, trivial⟩, rfl, by decide, rfl, (by first | rfl | simp [scRow, tkC_scs])⟩
  rcases hz with hz | hz
  · simp only [Prod.mk.injEq] at hz
    obtain ⟨rfl, rfl, rfl, rfl⟩ := hz
    simp only [int, am, simprocAttr, tys]
    have hb0 : (((b.length : Nat) : Int) == 0) = false := by
      rw [beq_eq_false_iff_ne]
      have : b ≠ [] := fun e => by rw [e] at hk; cases hk
      have := List.length_pos_iff.2 this
      omega
    have w1 : IntKind.i64.wrap ((0 : Int) + 1) = 1 := by decide
    refine ACall.of (tkLeft (some b)) [2] [] rfl (by simp) (by simp) (by simp) (by repeat' (first | exact trivial | exact .inl rfl | exact .inr rfl | exact .inr ⟨rfl, rfl, rfl, by simp; done⟩ | exact .inr ⟨rfl, by simp; done⟩ | exact .inr ⟨rfl, rfl, by simp; done⟩ | apply And.intro)) (by repeat' (first | exact trivial | rfl | exact (tkC_ren.1 _ _).symm | (simp; done) | apply And.intro)) (by first | exact .inl rfl | (refine .inr ⟨trivial, ?_⟩; first | (intro row h; rcases List.mem_singleton.1 h with rfl; exact nvB _) | (intro row h; cases h; done) | (simp; done)) | (refine .inr ⟨by simp [nvP, nvP.nvPs, nvD, nilS, errno], ?_⟩; first | (intro row h; rcases List.mem_singleton.1 h with rfl; exact nvB _) | (intro row h; cases h; done) | (simp [nvRow, nvD, nvP]; done))) ?_
    simp only [leftT, int, hb0, tkC_ren, am, simprocAttr, tys]
    refine ACall.of (tkInt (some b) (by intro bs h; cases h; omega)) [2] [] rfl (by simp) (by simp) (by simp) (by repeat' (first | exact trivial | exact .inl rfl | exact .inr rfl | exact .inr ⟨rfl, rfl, rfl, by simp; done⟩ | exact .inr ⟨rfl, by simp; done⟩ | exact .inr ⟨rfl, rfl, by simp; done⟩ | apply And.intro)) (by repeat' (first | exact trivial | rfl | exact (tkC_ren.1 _ _).symm | (simp; done) | apply And.intro)) (by first | exact .inl rfl | (refine .inr ⟨trivial, ?_⟩; first | (intro row h; rcases List.mem_singleton.1 h with rfl; exact nvB _) | (intro row h; cases h; done) | (simp; done)) | (refine .inr ⟨by simp [nvP, nvP.nvPs, nvD, nilS, errno], ?_⟩; first | (intro row h; rcases List.mem_singleton.1 h with rfl; exact nvB _) | (intro row h; cases h; done) | (simp [nvRow, nvD, nvP]; done))) ?_
    simp only [numT, hk, int, w1, tkC_ren, am, simprocAttr, tys]
    exact ⟨⟨(1, unfold' u, _, some []), .inr rfl⟩, [], [0, 1, 2], ⟨rfl, rfl, by simp, (fun i hi => .inr ((by decide : ∀ i, i < 2 → ([0, 1, 2] : List Nat).getD i 0 = i) i hi)), ⟨.inr rfl, .inr rfl, .inr rfl, .inr rfl, .inr rfl, trivial⟩, ⟨.inr ⟨by decide, rfl⟩, .inr ⟨by decide, rfl⟩, .inr ⟨by decide, rfl⟩, trivial⟩, rfl, by decide, rfl, (by first | rfl | simp [scRow, tkC_scs])⟩, by show 2 - 1 < 2 - 0; omega⟩
  · simp only [Prod.mk.injEq] at hz
    obtain ⟨rfl, rfl, rfl, rfl⟩ := hz
    simp only [int, am, simprocAttr, tys]
    refine ACall.of (tkLeft (some [])) [2] [] rfl (by simp) (by simp) (by simp) (by repeat' (first | exact trivial | exact .inl rfl | exact .inr rfl | exact .inr ⟨rfl, rfl, rfl, by simp; done⟩ | exact .inr ⟨rfl, by simp; done⟩ | exact .inr ⟨rfl, rfl, by simp; done⟩ | apply And.intro)) (by repeat' (first | exact trivial | rfl | exact (tkC_ren.1 _ _).symm | (simp; done) | apply And.intro)) (by first | exact .inl rfl | (refine .inr ⟨trivial, ?_⟩; first | (intro row h; rcases List.mem_singleton.1 h with rfl; exact nvB _) | (intro row h; cases h; done) | (simp; done)) | (refine .inr ⟨by simp [nvP, nvP.nvPs, nvD, nilS, errno], ?_⟩; first | (intro row h; rcases List.mem_singleton.1 h with rfl; exact nvB _) | (intro row h; cases h; done) | (simp [nvRow, nvD, nvP]; done))) ?_
    simp only [leftT, int, List.length_nil, nilS, bool, tkC_ren, FinR, evRes, evRVs, evRV, am, simprocAttr, tys]
    exact ⟨_, [], [0, 1], rfl, ⟨rfl, rfl, by simp, (fun i hi => .inr ((by decide : ∀ i, i < 2 → ([0, 1] : List Nat).getD i 0 = i) i hi)), trivial, ⟨.inr ⟨by decide, rfl⟩, .inr ⟨by decide, rfl⟩, trivial⟩, rfl, by decide, rfl, (by first | rfl | simp [scRow, tkC_scs])⟩, rfl, rfl⟩

set_option maxRecDepth 8000 in
theorem ints2G (c0 c1 c4 : DV) (x y : Int) (b : List UInt8) (hl : b.length ≤ 100000000) (u : Nat) (r : List UInt8) (hk : takeNum b = some (u, r)) (h0 : r ≠ []) (hk2 : takeNum r = none) :
    AFun Try.prog 87 [byts b, .own 1] [bx5 c0 c1 c4 x y, .box [.ptr 0 2, .ptr 0 3]] (.tup [nilS, bool false]) [bx5 c0 c1 c4 (unfold' u) (unfold' 0), .box [.ptr 0 2, .ptr 0 3]] := by
  have hrl : r.length ≤ b.length := by rw [(takeNum_some hk).2]; simp
  refine AFun.of_walk hP Try.func87 rfl rfl rfl (by simp) rfl ?_
  simp only [Try.f87, bx5, int, am, simprocAttr, tys]
  refine ACall.of (octsNew b (by omega)) [] [] rfl (by simp) (by simp) (by simp) (by repeat' (first | exact trivial | exact .inl rfl | exact .inr rfl | exact .inr ⟨rfl, rfl, rfl, by simp; done⟩ | exact .inr ⟨rfl, by simp; done⟩ | exact .inr ⟨rfl, rfl, by simp; done⟩ | apply And.intro)) (by repeat' (first | exact trivial | rfl | exact (tkC_ren.1 _ _).symm | (simp; done) | apply And.intro)) (by first | exact .inl rfl | (refine .inr ⟨trivial, ?_⟩; first | (intro row h; rcases List.mem_singleton.1 h with rfl; exact nvB _) | (intro row h; cases h; done) | (simp; done)) | (refine .inr ⟨by simp [nvP, nvP.nvPs, nvD, nilS, errno], ?_⟩; first | (intro row h; rcases List.mem_singleton.1 h with rfl; exact nvB _) | (intro row h; cases h; done) | (simp [nvRow, nvD, nvP]; done))) ?_
  simp only [tkC_ren, am, simprocAttr, tys]
  refine ALoopW.intro 41 2 (ι := { z : Nat × Int × Int × Tk // z = (0, x, y, some b) ∨ z = (1, unfold' u, y, some r) ∨ z = (2, unfold' u, unfold' 0, none) }) (fun z => [(0, byts b), (6, .ptr 2 0), (11, .own 1), (12, int 2), (13, int z.1.1)])
    (fun z => [.box [.d c0, .d c1, int z.1.2.1, int z.1.2.2.1, .d c4], .box [.ptr 0 2, .ptr 0 3], .box (tkC z.1.2.2.2)]) (fun z => 2 - z.1.1) ⟨(0, x, y, some b), .inl rfl⟩ [] [0, 1, 2] ?_ (fun ⟨⟨k, v, w, t⟩, hz⟩ => ?_)
  · exact ⟨rfl, rfl, by simp, (fun i hi => .inr ((by decide : ∀ i, i < 2 → ([0, 1, 2] : List Nat).getD i 0 = i) i hi)), ⟨.inr rfl, .inr rfl, .inr rfl, .inr rfl, .inr rfl, trivial⟩, ⟨.inr ⟨by decide, rfl⟩, .inr ⟨by decide, rfl⟩, .inr ⟨by decide, rfl⟩, trivial⟩, rfl, by decide, rfl, (by first | rfl | simp [scRow, tkC_scs])⟩
  rcases hz with hz | hz | hz
  · simp only [Prod.mk.injEq] at hz
    obtain ⟨rfl, rfl, rfl, rfl⟩ := hz
    simp only [int, am, simprocAttr, tys]
    have hb0 : (((b.length : Nat) : Int) == 0) = false := by
      rw [beq_eq_false_iff_ne]
      have : b ≠ [] := fun e => by rw [e] at hk; cases hk
      have := List.length_pos_iff.2 this
      omega
    have w1 : IntKind.i64.wrap ((0 : Int) + 1) = 1 := by decide
    refine ACall.of (tkLeft (some b)) [2] [] rfl (by simp) (by simp) (by simp) (by repeat' (first | exact trivial | exact .inl rfl | exact .inr rfl | exact .inr ⟨rfl, rfl, rfl, by simp; done⟩ | exact .inr ⟨rfl, by simp; done⟩ | exact .inr ⟨rfl, rfl, by simp; done⟩ | apply And.intro)) (by repeat' (first | exact trivial | rfl | exact (tkC_ren.1 _ _).symm | (simp; done) | apply And.intro)) (by first | exact .inl rfl | (refine .inr ⟨trivial, ?_⟩; first | (intro row h; rcases List.mem_singleton.1 h with rfl; exact nvB _) | (intro row h; cases h; done) | (simp; done)) | (refine .inr ⟨by simp [nvP, nvP.nvPs, nvD, nilS, errno], ?_⟩; first | (intro row h; rcases List.mem_singleton.1 h with rfl; exact nvB _) | (intro row h; cases h; done) | (simp [nvRow, nvD, nvP]; done))) ?_
    simp only [leftT, int, hb0, tkC_ren, am, simprocAttr, tys]
    refine ACall.of (tkInt (some b) (by intro bs h; cases h; omega)) [2] [] rfl (by simp) (by simp) (by simp) (by repeat' (first | exact trivial | exact .inl rfl | exact .inr rfl | exact .inr ⟨rfl, rfl, rfl, by simp; done⟩ | exact .inr ⟨rfl, by simp; done⟩ | exact .inr ⟨rfl, rfl, by simp; done⟩ | apply And.intro)) (by repeat' (first | exact trivial | rfl | exact (tkC_ren.1 _ _).symm | (simp; done) | apply And.intro)) (by first | exact .inl rfl | (refine .inr ⟨trivial, ?_⟩; first | (intro row h; rcases List.mem_singleton.1 h with rfl; exact nvB _) | (intro row h; cases h; done) | (simp; done)) | (refine .inr ⟨by simp [nvP, nvP.nvPs, nvD, nilS, errno], ?_⟩; first | (intro row h; rcases List.mem_singleton.1 h with rfl; exact nvB _) | (intro row h; cases h; done) | (simp [nvRow, nvD, nvP]; done))) ?_
    simp only [numT, hk, int, w1, tkC_ren, am, simprocAttr, tys]
    exact ⟨⟨(1, unfold' u, _, some r), .inr (.inl rfl)⟩, [], [0, 1, 2], ⟨rfl, rfl, by simp, (fun i hi => .inr ((by decide : ∀ i, i < 2 → ([0, 1, 2] : List Nat).getD i 0 = i) i hi)), ⟨.inr rfl, .inr rfl, .inr rfl, .inr rfl, .inr rfl, trivial⟩, ⟨.inr ⟨by decide, rfl⟩, .inr ⟨by decide, rfl⟩, .inr ⟨by decide, rfl⟩, trivial⟩, rfl, by decide, rfl, (by first | rfl | simp [scRow, tkC_scs])⟩, by show 2 - 1 < 2 - 0; omega⟩
  · simp only [Prod.mk.injEq] at hz
    obtain ⟨rfl, rfl, rfl, rfl⟩ := hz
    simp only [int, am, simprocAttr, tys]
    have hb0 : (((r.length : Nat) : Int) == 0) = false := by
      rw [beq_eq_false_iff_ne]
      have : r ≠ [] := h0
      have := List.length_pos_iff.2 this
      omega
    have w1 : IntKind.i64.wrap ((1 : Int) + 1) = 2 := by decide
    refine ACall.of (tkLeft (some r)) [2] [] rfl (by simp) (by simp) (by simp) (by repeat' (first | exact trivial | exact .inl rfl | exact .inr rfl | exact .inr ⟨rfl, rfl, rfl, by simp; done⟩ | exact .inr ⟨rfl, by simp; done⟩ | exact .inr ⟨rfl, rfl, by simp; done⟩ | apply And.intro)) (by repeat' (first | exact trivial | rfl | exact (tkC_ren.1 _ _).symm | (simp; done) | apply And.intro)) (by first | exact .inl rfl | (refine .inr ⟨trivial, ?_⟩; first | (intro row h; rcases List.mem_singleton.1 h with rfl; exact nvB _) | (intro row h; cases h; done) | (simp; done)) | (refine .inr ⟨by simp [nvP, nvP.nvPs, nvD, nilS, errno], ?_⟩; first | (intro row h; rcases List.mem_singleton.1 h with rfl; exact nvB _) | (intro row h; cases h; done) | (simp [nvRow, nvD, nvP]; done))) ?_
    simp only [leftT, int, hb0, tkC_ren, am, simprocAttr, tys]
    refine ACall.of (tkInt (some r) (by intro bs h; cases h; omega)) [2] [] rfl (by simp) (by simp) (by simp) (by repeat' (first | exact trivial | exact .inl rfl | exact .inr rfl | exact .inr ⟨rfl, rfl, rfl, by simp; done⟩ | exact .inr ⟨rfl, by simp; done⟩ | exact .inr ⟨rfl, rfl, by simp; done⟩ | apply And.intro)) (by repeat' (first | exact trivial | rfl | exact (tkC_ren.1 _ _).symm | (simp; done) | apply And.intro)) (by first | exact .inl rfl | (refine .inr ⟨trivial, ?_⟩; first | (intro row h; rcases List.mem_singleton.1 h with rfl; exact nvB _) | (intro row h; cases h; done) | (simp; done)) | (refine .inr ⟨by simp [nvP, nvP.nvPs, nvD, nilS, errno], ?_⟩; first | (intro row h; rcases List.mem_singleton.1 h with rfl; exact nvB _) | (intro row h; cases h; done) | (simp [nvRow, nvD, nvP]; done))) ?_
    simp only [numT, hk2, int, w1, tkC_ren, am, simprocAttr, tys]
    exact ⟨⟨(2, unfold' u, unfold' 0, none), .inr (.inr rfl)⟩, [], [0, 1, 2], ⟨rfl, rfl, by simp, (fun i hi => .inr ((by decide : ∀ i, i < 2 → ([0, 1, 2] : List Nat).getD i 0 = i) i hi)), ⟨.inr rfl, .inr rfl, .inr rfl, .inr rfl, .inr rfl, trivial⟩, ⟨.inr ⟨by decide, rfl⟩, .inr ⟨by decide, rfl⟩, .inr ⟨by decide, rfl⟩, trivial⟩, rfl, by decide, rfl, (by first | rfl | simp [scRow, tkC_scs])⟩, by show 2 - 2 < 2 - 1; omega⟩
  · simp only [Prod.mk.injEq] at hz
    obtain ⟨rfl, rfl, rfl, rfl⟩ := hz
    simp only [int, am, simprocAttr, tys]
    refine ACall.of (tkLeft none) [2] [] rfl (by simp) (by simp) (by simp) (by repeat' (first | exact trivial | exact .inl rfl | exact .inr rfl | exact .inr ⟨rfl, rfl, rfl, by simp; done⟩ | exact .inr ⟨rfl, by simp; done⟩ | exact .inr ⟨rfl, rfl, by simp; done⟩ | apply And.intro)) (by repeat' (first | exact trivial | rfl | exact (tkC_ren.1 _ _).symm | (simp; done) | apply And.intro)) (by first | exact .inl rfl | (refine .inr ⟨trivial, ?_⟩; first | (intro row h; rcases List.mem_singleton.1 h with rfl; exact nvB _) | (intro row h; cases h; done) | (simp; done)) | (refine .inr ⟨by simp [nvP, nvP.nvPs, nvD, nilS, errno], ?_⟩; first | (intro row h; rcases List.mem_singleton.1 h with rfl; exact nvB _) | (intro row h; cases h; done) | (simp [nvRow, nvD, nvP]; done))) ?_
    simp only [leftT, int, tkC_ren, am, simprocAttr, tys]
    refine ACall.of (tkEnd none) [2] [] rfl (by simp) (by simp) (by simp) (by repeat' (first | exact trivial | exact .inl rfl | exact .inr rfl | exact .inr ⟨rfl, rfl, rfl, by simp; done⟩ | exact .inr ⟨rfl, by simp; done⟩ | exact .inr ⟨rfl, rfl, by simp; done⟩ | apply And.intro)) (by repeat' (first | exact trivial | rfl | exact (tkC_ren.1 _ _).symm | (simp; done) | apply And.intro)) (by first | exact .inl rfl | (refine .inr ⟨trivial, ?_⟩; first | (intro row h; rcases List.mem_singleton.1 h with rfl; exact nvB _) | (intro row h; cases h; done) | (simp; done)) | (refine .inr ⟨by simp [nvP, nvP.nvPs, nvD, nilS, errno], ?_⟩; first | (intro row h; rcases List.mem_singleton.1 h with rfl; exact nvB _) | (intro row h; cases h; done) | (simp [nvRow, nvD, nvP]; done))) ?_
    simp only [endT, errno, nilS, bool, tkC_ren, FinR, evRes, evRVs, evRV, am, simprocAttr, tys]
    exact ⟨_, [], [0, 1], rfl, ⟨rfl, rfl, by simp, (fun i hi => .inr ((by decide : ∀ i, i < 2 → ([0, 1] : List Nat).getD i 0 = i) i hi)), trivial, ⟨.inr ⟨by decide, rfl⟩, .inr ⟨by decide, rfl⟩, trivial⟩, rfl, by decide, rfl, (by first | rfl | simp [scRow, tkC_scs])⟩, rfl, rfl⟩

set_option maxRecDepth 8000 in
theorem ints2Y (c0 c1 c4 : DV) (x y : Int) (b : List UInt8) (hl : b.length ≤ 100000000) (u : Nat) (r : List UInt8) (hk : takeNum b = some (u, r)) (u2 : Nat) (r2 : List UInt8) (hk2 : takeNum r = some (u2, r2)) :
    AFun Try.prog 87 [byts b, .own 1] [bx5 c0 c1 c4 x y, .box [.ptr 0 2, .ptr 0 3]] (.tup [byts r2, bool true]) [bx5 c0 c1 c4 (unfold' u) (unfold' u2), .box [.ptr 0 2, .ptr 0 3]] := by
  have hbr : b = (leb u ++ leb u2) ++ r2 := by rw [List.append_assoc, ← (takeNum_some hk2).2]; exact (takeNum_some hk).2
  have hrl : r.length ≤ b.length := by rw [(takeNum_some hk).2]; simp
  have hrl2 : r2.length ≤ b.length := by rw [hbr]; simp; omega
  refine AFun.of_walk hP Try.func87 rfl rfl rfl (by simp) rfl ?_
  simp only [Try.f87, bx5, int, am, simprocAttr, tys]
  refine ACall.of (octsNew b (by omega)) [] [] rfl (by simp) (by simp) (by simp) (by repeat' (first | exact trivial | exact .inl rfl | exact .inr rfl | exact .inr ⟨rfl, rfl, rfl, by simp; done⟩ | exact .inr ⟨rfl, by simp; done⟩ | exact .inr ⟨rfl, rfl, by simp; done⟩ | apply And.intro)) (by repeat' (first | exact trivial | rfl | exact (tkC_ren.1 _ _).symm | (simp; done) | apply And.intro)) (by first | exact .inl rfl | (refine .inr ⟨trivial, ?_⟩; first | (intro row h; rcases List.mem_singleton.1 h with rfl; exact nvB _) | (intro row h; cases h; done) | (simp; done)) | (refine .inr ⟨by simp [nvP, nvP.nvPs, nvD, nilS, errno], ?_⟩; first | (intro row h; rcases List.mem_singleton.1 h with rfl; exact nvB _) | (intro row h; cases h; done) | (simp [nvRow, nvD, nvP]; done))) ?_
  simp only [tkC_ren, am, simprocAttr, tys]
  refine ALoopW.intro 41 2 (ι := { z : Nat × Int × Int × Tk // z = (0, x, y, some b) ∨ z = (1, unfold' u, y, some r) ∨ z = (2, unfold' u, unfold' u2, some r2) }) (fun z => [(0, byts b), (6, .ptr 2 0), (11, .own 1), (12, int 2), (13, int z.1.1)])
    (fun z => [.box [.d c0, .d c1, int z.1.2.1, int z.1.2.2.1, .d c4], .box [.ptr 0 2, .ptr 0 3], .box (tkC z.1.2.2.2)]) (fun z => 2 - z.1.1) ⟨(0, x, y, some b), .inl rfl⟩ [] [0, 1, 2] ?_ (fun ⟨⟨k, v, w, t⟩, hz⟩ => ?_)
  · exact ⟨rfl, rfl, by simp, (fun i hi => .inr ((by decide : ∀ i, i < 2 → ([0, 1, 2] : List Nat).getD i 0 = i) i hi)), ⟨.inr rfl, .inr rfl, .inr rfl, .inr rfl, .inr rfl, trivial⟩, ⟨.inr ⟨by decide, rfl⟩, .inr ⟨by decide, rfl⟩, .inr ⟨by decide, rfl⟩, trivial⟩, rfl, by decide, rfl, (by first | rfl | simp [scRow, tkC_scs])⟩
  rcases hz with hz | hz | hz
  · simp only [Prod.mk.injEq] at hz
    obtain ⟨rfl, rfl, rfl, rfl⟩ := hz
    simp only [int, am, simprocAttr, tys]
    have hb0 : (((b.length : Nat) : Int) == 0) = false := by
      rw [beq_eq_false_iff_ne]
      have : b ≠ [] := fun e => by rw [e] at hk; cases hk
      have := List.length_pos_iff.2 this
      omega
    have w1 : IntKind.i64.wrap ((0 : Int) + 1) = 1 := by decide
    refine ACall.of (tkLeft (some b)) [2] [] rfl (by simp) (by simp) (by simp) (by repeat' (first | exact trivial | exact .inl rfl | exact .inr rfl | exact .inr ⟨rfl, rfl, rfl, by simp; done⟩ | exact .inr ⟨rfl, by simp; done⟩ | exact .inr ⟨rfl, rfl, by simp; done⟩ | apply And.intro)) (by repeat' (first | exact trivial | rfl | exact (tkC_ren.1 _ _).symm | (simp; done) | apply And.intro)) (by first | exact .inl rfl | (refine .inr ⟨trivial, ?_⟩; first | (intro row h; rcases List.mem_singleton.1 h with rfl; exact nvB _) | (intro row h; cases h; done) | (simp; done)) | (refine .inr ⟨by simp [nvP, nvP.nvPs, nvD, nilS, errno], ?_⟩; first | (intro row h; rcases List.mem_singleton.1 h with rfl; exact nvB _) | (intro row h; cases h; done) | (simp [nvRow, nvD, nvP]; done))) ?_
    simp only [leftT, int, hb0, tkC_ren, am, simprocAttr, tys]
    refine ACall.of (tkInt (some b) (by intro bs h; cases h; omega)) [2] [] rfl (by simp) (by simp) (by simp) (by repeat' (first | exact trivial | exact .inl rfl | exact .inr rfl | exact .inr ⟨rfl, rfl, rfl, by simp; done⟩ | exact .inr ⟨rfl, by simp; done⟩ | exact .inr ⟨rfl, rfl, by simp; done⟩ | apply And.intro)) (by repeat' (first | exact trivial | rfl | exact (tkC_ren.1 _ _).symm | (simp; done) | apply And.intro)) (by first | exact .inl rfl | (refine .inr ⟨trivial, ?_⟩; first | (intro row h; rcases List.mem_singleton.1 h with rfl; exact nvB _) | (intro row h; cases h; done) | (simp; done)) | (refine .inr ⟨by simp [nvP, nvP.nvPs, nvD, nilS, errno], ?_⟩; first | (intro row h; rcases List.mem_singleton.1 h with rfl; exact nvB _) | (intro row h; cases h; done) | (simp [nvRow, nvD, nvP]; done))) ?_
    simp only [numT, hk, int, w1, tkC_ren, am, simprocAttr, tys]
    exact ⟨⟨(1, unfold' u, _, some r), .inr (.inl rfl)⟩, [], [0, 1, 2], ⟨rfl, rfl, by simp, (fun i hi => .inr ((by decide : ∀ i, i < 2 → ([0, 1, 2] : List Nat).getD i 0 = i) i hi)), ⟨.inr rfl, .inr rfl, .inr rfl, .inr rfl, .inr rfl, trivial⟩, ⟨.inr ⟨by decide, rfl⟩, .inr ⟨by decide, rfl⟩, .inr ⟨by decide, rfl⟩, trivial⟩, rfl, by decide, rfl, (by first | rfl | simp [scRow, tkC_scs])⟩, by show 2 - 1 < 2 - 0; omega⟩
  · simp only [Prod.mk.injEq] at hz
    obtain ⟨rfl, rfl, rfl, rfl⟩ := hz
    simp only [int, am, simprocAttr, tys]
    have hb0 : (((r.length : Nat) : Int) == 0) = false := by
      rw [beq_eq_false_iff_ne]
      have : r ≠ [] := fun e => by rw [e] at hk2; cases hk2
      have := List.length_pos_iff.2 this
      omega
    have w1 : IntKind.i64.wrap ((1 : Int) + 1) = 2 := by decide
    refine ACall.of (tkLeft (some r)) [2] [] rfl (by simp) (by simp) (by simp) (by repeat' (first | exact trivial | exact .inl rfl | exact .inr rfl | exact .inr ⟨rfl, rfl, rfl, by simp; done⟩ | exact .inr ⟨rfl, by simp; done⟩ | exact .inr ⟨rfl, rfl, by simp; done⟩ | apply And.intro)) (by repeat' (first | exact trivial | rfl | exact (tkC_ren.1 _ _).symm | (simp; done) | apply And.intro)) (by first | exact .inl rfl | (refine .inr ⟨trivial, ?_⟩; first | (intro row h; rcases List.mem_singleton.1 h with rfl; exact nvB _) | (intro row h; cases h; done) | (simp; done)) | (refine .inr ⟨by simp [nvP, nvP.nvPs, nvD, nilS, errno], ?_⟩; first | (intro row h; rcases List.mem_singleton.1 h with rfl; exact nvB _) | (intro row h; cases h; done) | (simp [nvRow, nvD, nvP]; done))) ?_
    simp only [leftT, int, hb0, tkC_ren, am, simprocAttr, tys]
    refine ACall.of (tkInt (some r) (by intro bs h; cases h; omega)) [2] [] rfl (by simp) (by simp) (by simp) (by repeat' (first | exact trivial | exact .inl rfl | exact .inr rfl | exact .inr ⟨rfl, rfl, rfl, by simp; done⟩ | exact .inr ⟨rfl, by simp; done⟩ | exact .inr ⟨rfl, rfl, by simp; done⟩ | apply And.intro)) (by repeat' (first | exact trivial | rfl | exact (tkC_ren.1 _ _).symm | (simp; done) | apply And.intro)) (by first | exact .inl rfl | (refine .inr ⟨trivial, ?_⟩; first | (intro row h; rcases List.mem_singleton.1 h with rfl; exact nvB _) | (intro row h; cases h; done) | (simp; done)) | (refine .inr ⟨by simp [nvP, nvP.nvPs, nvD, nilS, errno], ?_⟩; first | (intro row h; rcases List.mem_singleton.1 h with rfl; exact nvB _) | (intro row h; cases h; done) | (simp [nvRow, nvD, nvP]; done))) ?_
    simp only [numT, hk2, int, w1, tkC_ren, am, simprocAttr, tys]
    exact ⟨⟨(2, unfold' u, unfold' u2, some r2), .inr (.inr rfl)⟩, [], [0, 1, 2], ⟨rfl, rfl, by simp, (fun i hi => .inr ((by decide : ∀ i, i < 2 → ([0, 1, 2] : List Nat).getD i 0 = i) i hi)), ⟨.inr rfl, .inr rfl, .inr rfl, .inr rfl, .inr rfl, trivial⟩, ⟨.inr ⟨by decide, rfl⟩, .inr ⟨by decide, rfl⟩, .inr ⟨by decide, rfl⟩, trivial⟩, rfl, by decide, rfl, (by first | rfl | simp [scRow, tkC_scs])⟩, by show 2 - 2 < 2 - 1; omega⟩
  · simp only [Prod.mk.injEq] at hz
    obtain ⟨rfl, rfl, rfl, rfl⟩ := hz
    simp only [int, am, simprocAttr, tys]
    have w3 : IntKind.i64.wrap ((b.length : Int) - r2.length) = ((b.length - r2.length : Nat) : Int) := by rw [IntWalk.i64_in _ (by omega)]; omega
    have w4 : b.drop (b.length - r2.length) = r2 := by rw [hbr]; exact drop_tail _ _
    refine ACall.of (tkLeft (some r2)) [2] [] rfl (by simp) (by simp) (by simp) (by repeat' (first | exact trivial | exact .inl rfl | exact .inr rfl | exact .inr ⟨rfl, rfl, rfl, by simp; done⟩ | exact .inr ⟨rfl, by simp; done⟩ | exact .inr ⟨rfl, rfl, by simp; done⟩ | apply And.intro)) (by repeat' (first | exact trivial | rfl | exact (tkC_ren.1 _ _).symm | (simp; done) | apply And.intro)) (by first | exact .inl rfl | (refine .inr ⟨trivial, ?_⟩; first | (intro row h; rcases List.mem_singleton.1 h with rfl; exact nvB _) | (intro row h; cases h; done) | (simp; done)) | (refine .inr ⟨by simp [nvP, nvP.nvPs, nvD, nilS, errno], ?_⟩; first | (intro row h; rcases List.mem_singleton.1 h with rfl; exact nvB _) | (intro row h; cases h; done) | (simp [nvRow, nvD, nvP]; done))) ?_
    rcases hlz : (((r2.length : Nat) : Int) == 0) with _ | _
    case' false =>
      simp only [leftT, int, hlz, byts, tkC_ren, am, simprocAttr, tys]
    case' true =>
      have hE : endT (some r2) = 0 := by
        have : r2 = [] := List.eq_nil_of_length_eq_zero (by have := eq_of_beq hlz; omega)
        rw [this]; rfl
      simp only [leftT, int, hlz, tkC_ren, am, simprocAttr, tys]
      refine ACall.of (tkEnd (some r2)) [2] [] rfl (by simp) (by simp) (by simp) (by repeat' (first | exact trivial | exact .inl rfl | exact .inr rfl | exact .inr ⟨rfl, rfl, rfl, by simp; done⟩ | exact .inr ⟨rfl, by simp; done⟩ | exact .inr ⟨rfl, rfl, by simp; done⟩ | apply And.intro)) (by repeat' (first | exact trivial | rfl | exact (tkC_ren.1 _ _).symm | (simp; done) | apply And.intro)) (by first | exact .inl rfl | (refine .inr ⟨trivial, ?_⟩; first | (intro row h; rcases List.mem_singleton.1 h with rfl; exact nvB _) | (intro row h; cases h; done) | (simp; done)) | (refine .inr ⟨by simp [nvP, nvP.nvPs, nvD, nilS, errno], ?_⟩; first | (intro row h; rcases List.mem_singleton.1 h with rfl; exact nvB _) | (intro row h; cases h; done) | (simp [nvRow, nvD, nvP]; done))) ?_
      simp only [hE, errno, byts, tkC_ren, am, simprocAttr, tys]
    all_goals
      refine ACall.of (tkLeft (some r2)) [2] [] rfl (by simp) (by simp) (by simp) (by repeat' (first | exact trivial | exact .inl rfl | exact .inr rfl | exact .inr ⟨rfl, rfl, rfl, by simp; done⟩ | exact .inr ⟨rfl, by simp; done⟩ | exact .inr ⟨rfl, rfl, by simp; done⟩ | apply And.intro)) (by repeat' (first | exact trivial | rfl | exact (tkC_ren.1 _ _).symm | (simp; done) | apply And.intro)) (by first | exact .inl rfl | (refine .inr ⟨trivial, ?_⟩; first | (intro row h; rcases List.mem_singleton.1 h with rfl; exact nvB _) | (intro row h; cases h; done) | (simp; done)) | (refine .inr ⟨by simp [nvP, nvP.nvPs, nvD, nilS, errno], ?_⟩; first | (intro row h; rcases List.mem_singleton.1 h with rfl; exact nvB _) | (intro row h; cases h; done) | (simp [nvRow, nvD, nvP]; done))) ?_
      simp only [leftT, int, byts, w3, Int.natCast_nonneg, Int.toNat_natCast, ← List.map_take, ← List.map_drop, List.take_length, w4, tkC_ren, am, simprocAttr, tys]
      refine ⟨by omega, ?_⟩
      refine ACall.of (cloneB r2 (by omega)) [] [] rfl (by simp) (by simp) (by simp) (by repeat' (first | exact trivial | exact .inl rfl | exact .inr rfl | exact .inr ⟨rfl, rfl, rfl, by simp; done⟩ | exact .inr ⟨rfl, by simp; done⟩ | exact .inr ⟨rfl, rfl, by simp; done⟩ | apply And.intro)) (by repeat' (first | exact trivial | rfl | exact (tkC_ren.1 _ _).symm | (simp; done) | apply And.intro)) (by first | exact .inl rfl | (refine .inr ⟨trivial, ?_⟩; first | (intro row h; rcases List.mem_singleton.1 h with rfl; exact nvB _) | (intro row h; cases h; done) | (simp; done)) | (refine .inr ⟨by simp [nvP, nvP.nvPs, nvD, nilS, errno], ?_⟩; first | (intro row h; rcases List.mem_singleton.1 h with rfl; exact nvB _) | (intro row h; cases h; done) | (simp [nvRow, nvD, nvP]; done))) ?_
      simp only [bool, byts, FinR, evRes, evRVs, evRV, am, simprocAttr, tys]
      exact ⟨_, [], [0, 1], rfl, ⟨rfl, rfl, by simp, (fun i hi => .inr ((by decide : ∀ i, i < 2 → ([0, 1] : List Nat).getD i 0 = i) i hi)), trivial, ⟨.inr ⟨by decide, rfl⟩, .inr ⟨by decide, rfl⟩, trivial⟩, rfl, by decide, rfl, (by first | rfl | simp [scRow, tkC_scs])⟩, rfl, rfl⟩
end Go.Proofs.Ytflpphgccjlkjaa

set_option linter.unusedSimpArgs false
set_option linter.unusedVariables false
namespace Go.Proofs.Ytflpphgccjlkjaa
open Go Go.AM

def takeInt (b : List UInt8) : Option (Int × List UInt8) := match takeNum b with | none => none | some (u, r) => some (unfold' u, r)
def takeK (c : UInt8) (r : List UInt8) : Option (OpT × List UInt8) :=
    if c = 1 then (match takeLb r with
      | none => none
      | some (l, r1) => match takeNum r1 with
        | none => none
        | some (u, r2) => match takeNum r2 with
          | none => none
          | some (u2, r3) => some ((c, l, (unfold' u, unfold' u2, ()), [], ()), r3))
    else if c = 3 then (match takeNum r with
      | none => none
      | some (u, r1) => some ((c, [], (unfold' u, 0, ()), [], ()), r1))
    else if c = 4 then (match takeA r with
      | none => none
      | some (l, r1) => some ((c, [], (0, 0, ()), l, ()), r1))
    else if c = 2 then some ((c, [], (0, 0, ()), [], ()), r)
    else none
def takeO (b : List UInt8) : Option (OpT × List UInt8) := match b with
  | [] => none
  | c :: r => takeK c r
def zeroO : OpT := (0, [], (0, 0, ()), [], ())
def takeOR : Option (OpT × List UInt8) → PV
  | none => .tup [.d (.agg (encO zeroO)), nilS, errno 6]
  | some (o, r) => .tup [.d (.agg (encO o)), byts r, errno 0]

/-- nil for a slice of none -/
def cle : List DV → List DV → Prop
  | [], [] => True
  | x :: xs, y :: ys => (x = y ∨ (x = .lit (.slice none 0 0) ∧ ∃ sz, y = .sl sz [])) ∧ cle xs ys
  | _, _ => False
theorem reps_cle {w : World} {X : Nat → Prop} : ∀ {xs ys : List DV} {vs : List Value}, cle xs ys → reps w X xs vs → reps w X ys vs
  | [], [], vs, _, h => h
  | [], _ :: _, vs, h, _ => h.elim
  | _ :: _, [], vs, h, _ => h.elim
  | x :: xs, y :: ys, vs, h, hr => by
    obtain ⟨h1, h2⟩ := h
    unfold reps at hr ⊢
    obtain ⟨u, us, e, ho, r1, r2⟩ := hr
    refine ⟨u, us, e, ho, ?_, reps_cle h2 r2⟩
    rcases h1 with rfl | ⟨rfl, sz, rfl⟩
    · exact r1
    · exact nil_rep sz w X u r1
theorem AFun.cle {f : Nat} {args : List PV} {A B : List DV} {x y : DV} (h : AFun Try.prog f args [] (.tup [.d (.agg A), .d x, .d y]) []) (hc : cle A B) : AFun Try.prog f args [] (.tup [.d (.agg B), .d x, .d y]) [] := by
  refine AFun.weaken h ?_ ?_
  · exact ⟨trivial, trivial, trivial, trivial⟩
  · intro rows β w X v h
    unfold repP at h ⊢
    obtain ⟨vs, rfl, h⟩ := h
    refine ⟨vs, rfl, ?_⟩
    unfold repPs at h ⊢
    obtain ⟨u, us, rfl, h1, h2⟩ := h
    refine ⟨u, us, rfl, ?_, h2⟩
    unfold repP rep at h1 ⊢
    obtain ⟨vs', e, h1⟩ := h1
    exact ⟨vs', e, reps_cle hc h1⟩

abbrev nlD : DV := .lit (.slice none 0 0)
abbrev i64D (n : Int) : DV := .lit (.int .i64 n)
abbrev failO : PV := .tup [.d (.agg [.lit (.int .u8 0), nlD, i64D 0, i64D 0, nlD]), nilS, errno 6]

theorem opTakeE : AFun Try.prog 66 [byts []] [] failO [] := by
  refine AFun.of_walk hP Try.func66 rfl rfl rfl (by simp) rfl ?_
  simp only [Try.f66, byts, nilS, errno, FinR, evRes, evRVs, evRV, am, simprocAttr, tys]
  exact ⟨_, [], [], rfl, Ent.plain rfl rfl rfl trivial rfl, rfl, rfl⟩

set_option maxRecDepth 8000 in
set_option maxHeartbeats 2000000 in
theorem opTakeC (c : UInt8) (r : List UInt8) (hl : r.length ≤ 10000000) : AFun Try.prog 66 [byts (c :: r)] [] (takeOR (takeO (c :: r))) [] := by
  have hfail : AFun Try.prog 66 [byts (c :: r)] [] failO [] → AFun Try.prog 66 [byts (c :: r)] [] (takeOR none) [] := fun h => AFun.cle h ⟨.inl rfl, .inr ⟨rfl, 2, rfl⟩, .inl rfl, .inl rfl, .inr ⟨rfl, 3, rfl⟩, trivial⟩
  have hI : ((0 : Int) < (((c :: r : List UInt8).length : Nat) : Int)) := by rw [List.length_cons]; omega
  have hI1 : ((1 : Int) ≤ (((c :: r : List UInt8).length : Nat) : Int)) := by rw [List.length_cons]; omega
  have hE : ((((c :: r : List UInt8).length : Nat) : Int) == 0) = false := by rw [beq_eq_false_iff_ne, List.length_cons]; omega
  have h0 : (c :: r : List UInt8)[0]? = some c := rfl
  have hd : (c :: r : List UInt8).drop 1 = r := rfl
  have e1 : ((c.toNat : Int) == 1) = decide (c = 1) := u8eq c 1 (by omega)
  have e2 : ((c.toNat : Int) == 2) = decide (c = 2) := u8eq c 2 (by omega)
  have e3 : ((c.toNat : Int) == 3) = decide (c = 3) := u8eq c 3 (by omega)
  have e4 : ((c.toNat : Int) == 4) = decide (c = 4) := u8eq c 4 (by omega)
  have hfail2 : takeK c r = none → AFun Try.prog 66 [byts (c :: r)] [] failO [] → AFun Try.prog 66 [byts (c :: r)] [] (takeOR (takeO (c :: r))) [] := fun h w => by
    have e : takeO (c :: r) = none := h
    rw [e]; exact hfail w
  have hok : ∀ (o : OpT) (rest : List UInt8) (A : List DV), takeK c r = some (o, rest) → cle A (encO o) → AFun Try.prog 66 [byts (c :: r)] [] (.tup [.d (.agg A), byts rest, errno 0]) [] → AFun Try.prog 66 [byts (c :: r)] [] (takeOR (takeO (c :: r))) [] := fun o rest A h hc w => by
    have e : takeO (c :: r) = some (o, rest) := h
    rw [e]; exact AFun.cle w hc
  by_cases k1 : c = 1
  · have d1 : decide (c = 1) = true := decide_eq_true k1
    have cT := labelTake r (by omega)
    rcases hk : takeLb r with _ | ⟨l, r1⟩
    · refine hfail2 (by unfold takeK; rw [if_pos k1, hk]) ?_
      rw [hk] at cT
      generalize (c :: r : List UInt8) = bb at *
      refine AFun.of_walk hP Try.func66 rfl rfl rfl (by simp) rfl ?_
      simp only [Try.f66, byts, hE, hI, hI1, h0, encB, Int.toNat_zero, ← List.map_drop, ← List.map_take, List.take_length, hd, Int.toNat_one, Int.toNat_natCast, am, simprocAttr, tys]
      refine ⟨Int.le_refl _, ?_⟩
      refine ACallD.of (cloneB r (by omega)) (by kernel_rfl) [] [] rfl (by simp) (by simp) (by simp) (by simp) (by repeat' (first | exact trivial | exact .inl rfl | exact .inr rfl | exact .inr ⟨rfl, rfl, rfl, by simp; done⟩ | exact .inr ⟨rfl, by simp; done⟩ | exact .inr ⟨rfl, rfl, by simp; done⟩ | apply And.intro)) (by repeat' (first | exact trivial | rfl | exact (tkC_ren.1 _ _).symm | (simp; done) | apply And.intro)) (by first | exact .inl rfl | (refine .inr ⟨trivial, ?_⟩; first | (intro row h; rcases List.mem_singleton.1 h with rfl; exact nvB _) | (intro row h; cases h; done) | (simp; done)) | (refine .inr ⟨by simp [nvP, nvP.nvPs, nvD, nilS, errno], ?_⟩; first | (intro row h; rcases List.mem_singleton.1 h with rfl; exact nvB _) | (intro row h; cases h; done) | (simp [nvRow, nvD, nvP]; done))) rfl rfl rfl rfl ?_
      simp only [byts, e1, d1, am, simprocAttr, tys]
      refine ⟨by kernel_rfl, ?_⟩
      refine ACall.of (cT) [] [] rfl (by simp) (by simp) (by simp) (by repeat' (first | exact trivial | exact .inl rfl | exact .inr rfl | exact .inr ⟨rfl, rfl, rfl, by simp; done⟩ | exact .inr ⟨rfl, by simp; done⟩ | exact .inr ⟨rfl, rfl, by simp; done⟩ | apply And.intro)) (by repeat' (first | exact trivial | rfl | exact (tkC_ren.1 _ _).symm | (simp; done) | apply And.intro)) (by first | exact .inl rfl | (refine .inr ⟨trivial, ?_⟩; first | (intro row h; rcases List.mem_singleton.1 h with rfl; exact nvB _) | (intro row h; cases h; done) | (simp; done)) | (refine .inr ⟨by simp [nvP, nvP.nvPs, nvD, nilS, errno], ?_⟩; first | (intro row h; rcases List.mem_singleton.1 h with rfl; exact nvB _) | (intro row h; cases h; done) | (simp [nvRow, nvD, nvP]; done))) ?_
      simp only [takeLR, nilS, errno, FinR, evRes, evRVs, evRV, am, simprocAttr, tys]
      exact ⟨_, [], [], rfl, Ent.plain rfl rfl rfl trivial rfl, rfl, rfl⟩
    · rw [hk] at cT
      have hrl : r1.length ≤ r.length := by rw [(takeLb_some hk).2]; simp
      have hr1 : r1.length ≤ 100000000 := by omega
      rcases hn1 : takeNum r1 with _ | ⟨u, r2⟩
      · refine hfail2 (by unfold takeK; rw [if_pos k1, hk]; simp only [hn1]) ?_
        by_cases hr0 : r1 = []
        · skip
          generalize (c :: r : List UInt8) = bb at *
          refine AFun.of_walk hP Try.func66 rfl rfl rfl (by simp) rfl ?_
          simp only [Try.f66, byts, hE, hI, hI1, h0, encB, Int.toNat_zero, ← List.map_drop, ← List.map_take, List.take_length, hd, Int.toNat_one, Int.toNat_natCast, am, simprocAttr, tys]
          refine ⟨Int.le_refl _, ?_⟩
          refine ACallD.of (cloneB r (by omega)) (by kernel_rfl) [] [] rfl (by simp) (by simp) (by simp) (by simp) (by repeat' (first | exact trivial | exact .inl rfl | exact .inr rfl | exact .inr ⟨rfl, rfl, rfl, by simp; done⟩ | exact .inr ⟨rfl, by simp; done⟩ | exact .inr ⟨rfl, rfl, by simp; done⟩ | apply And.intro)) (by repeat' (first | exact trivial | rfl | exact (tkC_ren.1 _ _).symm | (simp; done) | apply And.intro)) (by first | exact .inl rfl | (refine .inr ⟨trivial, ?_⟩; first | (intro row h; rcases List.mem_singleton.1 h with rfl; exact nvB _) | (intro row h; cases h; done) | (simp; done)) | (refine .inr ⟨by simp [nvP, nvP.nvPs, nvD, nilS, errno], ?_⟩; first | (intro row h; rcases List.mem_singleton.1 h with rfl; exact nvB _) | (intro row h; cases h; done) | (simp [nvRow, nvD, nvP]; done))) rfl rfl rfl rfl ?_
          simp only [byts, e1, d1, am, simprocAttr, tys]
          refine ⟨by kernel_rfl, ?_⟩
          refine ACall.of (cT) [] [] rfl (by simp) (by simp) (by simp) (by repeat' (first | exact trivial | exact .inl rfl | exact .inr rfl | exact .inr ⟨rfl, rfl, rfl, by simp; done⟩ | exact .inr ⟨rfl, by simp; done⟩ | exact .inr ⟨rfl, rfl, by simp; done⟩ | apply And.intro)) (by repeat' (first | exact trivial | rfl | exact (tkC_ren.1 _ _).symm | (simp; done) | apply And.intro)) (by first | exact .inl rfl | (refine .inr ⟨trivial, ?_⟩; first | (intro row h; rcases List.mem_singleton.1 h with rfl; exact nvB _) | (intro row h; cases h; done) | (simp; done)) | (refine .inr ⟨by simp [nvP, nvP.nvPs, nvD, nilS, errno], ?_⟩; first | (intro row h; rcases List.mem_singleton.1 h with rfl; exact nvB _) | (intro row h; cases h; done) | (simp [nvRow, nvD, nvP]; done))) ?_
          simp only [takeLR, errno, am, simprocAttr, tys]
          refine ACall.of (ints2E (.lit (.int .u8 c.toNat)) (.sl 2 (l.map encL)) nlD 0 0 r1 hr1 hr0) [449, 705] [] rfl (by simp) (by simp) (by simp) (by repeat' (first | exact trivial | exact .inl rfl | exact .inr rfl | exact .inr ⟨rfl, rfl, rfl, by simp; done⟩ | exact .inr ⟨rfl, by simp; done⟩ | exact .inr ⟨rfl, rfl, by simp; done⟩ | apply And.intro)) (by repeat' (first | exact trivial | rfl | exact (tkC_ren.1 _ _).symm | (simp; done) | apply And.intro)) (by first | exact .inl rfl | (refine .inr ⟨trivial, ?_⟩; first | (intro row h; rcases List.mem_singleton.1 h with rfl; exact nvB _) | (intro row h; cases h; done) | (simp; done)) | (refine .inr ⟨by simp [nvP, nvP.nvPs, nvD, nilS, errno], ?_⟩; first | (intro row h; rcases List.mem_singleton.1 h with rfl; exact nvB _) | (intro row h; cases h; done) | (simp [nvRow, nvD, nvP]; done))) ?_
          simp only [bool, int, nlD, i64D, byts, nilS, errno, FinR, evRes, evRVs, evRV, am, simprocAttr, tys]
          exact ⟨_, [], [], rfl, Ent.plain rfl rfl rfl trivial rfl, rfl, rfl⟩
        · skip
          generalize (c :: r : List UInt8) = bb at *
          refine AFun.of_walk hP Try.func66 rfl rfl rfl (by simp) rfl ?_
          simp only [Try.f66, byts, hE, hI, hI1, h0, encB, Int.toNat_zero, ← List.map_drop, ← List.map_take, List.take_length, hd, Int.toNat_one, Int.toNat_natCast, am, simprocAttr, tys]
          refine ⟨Int.le_refl _, ?_⟩
          refine ACallD.of (cloneB r (by omega)) (by kernel_rfl) [] [] rfl (by simp) (by simp) (by simp) (by simp) (by repeat' (first | exact trivial | exact .inl rfl | exact .inr rfl | exact .inr ⟨rfl, rfl, rfl, by simp; done⟩ | exact .inr ⟨rfl, by simp; done⟩ | exact .inr ⟨rfl, rfl, by simp; done⟩ | apply And.intro)) (by repeat' (first | exact trivial | rfl | exact (tkC_ren.1 _ _).symm | (simp; done) | apply And.intro)) (by first | exact .inl rfl | (refine .inr ⟨trivial, ?_⟩; first | (intro row h; rcases List.mem_singleton.1 h with rfl; exact nvB _) | (intro row h; cases h; done) | (simp; done)) | (refine .inr ⟨by simp [nvP, nvP.nvPs, nvD, nilS, errno], ?_⟩; first | (intro row h; rcases List.mem_singleton.1 h with rfl; exact nvB _) | (intro row h; cases h; done) | (simp [nvRow, nvD, nvP]; done))) rfl rfl rfl rfl ?_
          simp only [byts, e1, d1, am, simprocAttr, tys]
          refine ⟨by kernel_rfl, ?_⟩
          refine ACall.of (cT) [] [] rfl (by simp) (by simp) (by simp) (by repeat' (first | exact trivial | exact .inl rfl | exact .inr rfl | exact .inr ⟨rfl, rfl, rfl, by simp; done⟩ | exact .inr ⟨rfl, by simp; done⟩ | exact .inr ⟨rfl, rfl, by simp; done⟩ | apply And.intro)) (by repeat' (first | exact trivial | rfl | exact (tkC_ren.1 _ _).symm | (simp; done) | apply And.intro)) (by first | exact .inl rfl | (refine .inr ⟨trivial, ?_⟩; first | (intro row h; rcases List.mem_singleton.1 h with rfl; exact nvB _) | (intro row h; cases h; done) | (simp; done)) | (refine .inr ⟨by simp [nvP, nvP.nvPs, nvD, nilS, errno], ?_⟩; first | (intro row h; rcases List.mem_singleton.1 h with rfl; exact nvB _) | (intro row h; cases h; done) | (simp [nvRow, nvD, nvP]; done))) ?_
          simp only [takeLR, errno, am, simprocAttr, tys]
          refine ACall.of (ints2M (.lit (.int .u8 c.toNat)) (.sl 2 (l.map encL)) nlD 0 0 r1 hr1 hr0 hn1) [449, 705] [] rfl (by simp) (by simp) (by simp) (by repeat' (first | exact trivial | exact .inl rfl | exact .inr rfl | exact .inr ⟨rfl, rfl, rfl, by simp; done⟩ | exact .inr ⟨rfl, by simp; done⟩ | exact .inr ⟨rfl, rfl, by simp; done⟩ | apply And.intro)) (by repeat' (first | exact trivial | rfl | exact (tkC_ren.1 _ _).symm | (simp; done) | apply And.intro)) (by first | exact .inl rfl | (refine .inr ⟨trivial, ?_⟩; first | (intro row h; rcases List.mem_singleton.1 h with rfl; exact nvB _) | (intro row h; cases h; done) | (simp; done)) | (refine .inr ⟨by simp [nvP, nvP.nvPs, nvD, nilS, errno], ?_⟩; first | (intro row h; rcases List.mem_singleton.1 h with rfl; exact nvB _) | (intro row h; cases h; done) | (simp [nvRow, nvD, nvP]; done))) ?_
          simp only [bool, int, nlD, i64D, byts, nilS, errno, FinR, evRes, evRVs, evRV, am, simprocAttr, tys]
          exact ⟨_, [], [], rfl, Ent.plain rfl rfl rfl trivial rfl, rfl, rfl⟩
      · rcases hn2 : takeNum r2 with _ | ⟨u2, r3⟩
        · refine hfail2 (by unfold takeK; rw [if_pos k1, hk]; simp only [hn1, hn2]) ?_
          by_cases hr0 : r2 = []
          · rw [hr0] at hn1
            generalize (c :: r : List UInt8) = bb at *
            refine AFun.of_walk hP Try.func66 rfl rfl rfl (by simp) rfl ?_
            simp only [Try.f66, byts, hE, hI, hI1, h0, encB, Int.toNat_zero, ← List.map_drop, ← List.map_take, List.take_length, hd, Int.toNat_one, Int.toNat_natCast, am, simprocAttr, tys]
            refine ⟨Int.le_refl _, ?_⟩
            refine ACallD.of (cloneB r (by omega)) (by kernel_rfl) [] [] rfl (by simp) (by simp) (by simp) (by simp) (by repeat' (first | exact trivial | exact .inl rfl | exact .inr rfl | exact .inr ⟨rfl, rfl, rfl, by simp; done⟩ | exact .inr ⟨rfl, by simp; done⟩ | exact .inr ⟨rfl, rfl, by simp; done⟩ | apply And.intro)) (by repeat' (first | exact trivial | rfl | exact (tkC_ren.1 _ _).symm | (simp; done) | apply And.intro)) (by first | exact .inl rfl | (refine .inr ⟨trivial, ?_⟩; first | (intro row h; rcases List.mem_singleton.1 h with rfl; exact nvB _) | (intro row h; cases h; done) | (simp; done)) | (refine .inr ⟨by simp [nvP, nvP.nvPs, nvD, nilS, errno], ?_⟩; first | (intro row h; rcases List.mem_singleton.1 h with rfl; exact nvB _) | (intro row h; cases h; done) | (simp [nvRow, nvD, nvP]; done))) rfl rfl rfl rfl ?_
            simp only [byts, e1, d1, am, simprocAttr, tys]
            refine ⟨by kernel_rfl, ?_⟩
            refine ACall.of (cT) [] [] rfl (by simp) (by simp) (by simp) (by repeat' (first | exact trivial | exact .inl rfl | exact .inr rfl | exact .inr ⟨rfl, rfl, rfl, by simp; done⟩ | exact .inr ⟨rfl, by simp; done⟩ | exact .inr ⟨rfl, rfl, by simp; done⟩ | apply And.intro)) (by repeat' (first | exact trivial | rfl | exact (tkC_ren.1 _ _).symm | (simp; done) | apply And.intro)) (by first | exact .inl rfl | (refine .inr ⟨trivial, ?_⟩; first | (intro row h; rcases List.mem_singleton.1 h with rfl; exact nvB _) | (intro row h; cases h; done) | (simp; done)) | (refine .inr ⟨by simp [nvP, nvP.nvPs, nvD, nilS, errno], ?_⟩; first | (intro row h; rcases List.mem_singleton.1 h with rfl; exact nvB _) | (intro row h; cases h; done) | (simp [nvRow, nvD, nvP]; done))) ?_
            simp only [takeLR, errno, am, simprocAttr, tys]
            refine ACall.of (ints2F (.lit (.int .u8 c.toNat)) (.sl 2 (l.map encL)) nlD 0 0 r1 hr1 u hn1) [449, 705] [] rfl (by simp) (by simp) (by simp) (by repeat' (first | exact trivial | exact .inl rfl | exact .inr rfl | exact .inr ⟨rfl, rfl, rfl, by simp; done⟩ | exact .inr ⟨rfl, by simp; done⟩ | exact .inr ⟨rfl, rfl, by simp; done⟩ | apply And.intro)) (by repeat' (first | exact trivial | rfl | exact (tkC_ren.1 _ _).symm | (simp; done) | apply And.intro)) (by first | exact .inl rfl | (refine .inr ⟨trivial, ?_⟩; first | (intro row h; rcases List.mem_singleton.1 h with rfl; exact nvB _) | (intro row h; cases h; done) | (simp; done)) | (refine .inr ⟨by simp [nvP, nvP.nvPs, nvD, nilS, errno], ?_⟩; first | (intro row h; rcases List.mem_singleton.1 h with rfl; exact nvB _) | (intro row h; cases h; done) | (simp [nvRow, nvD, nvP]; done))) ?_
            simp only [bool, int, nlD, i64D, byts, nilS, errno, FinR, evRes, evRVs, evRV, am, simprocAttr, tys]
            exact ⟨_, [], [], rfl, Ent.plain rfl rfl rfl trivial rfl, rfl, rfl⟩
          · skip
            generalize (c :: r : List UInt8) = bb at *
            refine AFun.of_walk hP Try.func66 rfl rfl rfl (by simp) rfl ?_
            simp only [Try.f66, byts, hE, hI, hI1, h0, encB, Int.toNat_zero, ← List.map_drop, ← List.map_take, List.take_length, hd, Int.toNat_one, Int.toNat_natCast, am, simprocAttr, tys]
            refine ⟨Int.le_refl _, ?_⟩
            refine ACallD.of (cloneB r (by omega)) (by kernel_rfl) [] [] rfl (by simp) (by simp) (by simp) (by simp) (by repeat' (first | exact trivial | exact .inl rfl | exact .inr rfl | exact .inr ⟨rfl, rfl, rfl, by simp; done⟩ | exact .inr ⟨rfl, by simp; done⟩ | exact .inr ⟨rfl, rfl, by simp; done⟩ | apply And.intro)) (by repeat' (first | exact trivial | rfl | exact (tkC_ren.1 _ _).symm | (simp; done) | apply And.intro)) (by first | exact .inl rfl | (refine .inr ⟨trivial, ?_⟩; first | (intro row h; rcases List.mem_singleton.1 h with rfl; exact nvB _) | (intro row h; cases h; done) | (simp; done)) | (refine .inr ⟨by simp [nvP, nvP.nvPs, nvD, nilS, errno], ?_⟩; first | (intro row h; rcases List.mem_singleton.1 h with rfl; exact nvB _) | (intro row h; cases h; done) | (simp [nvRow, nvD, nvP]; done))) rfl rfl rfl rfl ?_
            simp only [byts, e1, d1, am, simprocAttr, tys]
            refine ⟨by kernel_rfl, ?_⟩
            refine ACall.of (cT) [] [] rfl (by simp) (by simp) (by simp) (by repeat' (first | exact trivial | exact .inl rfl | exact .inr rfl | exact .inr ⟨rfl, rfl, rfl, by simp; done⟩ | exact .inr ⟨rfl, by simp; done⟩ | exact .inr ⟨rfl, rfl, by simp; done⟩ | apply And.intro)) (by repeat' (first | exact trivial | rfl | exact (tkC_ren.1 _ _).symm | (simp; done) | apply And.intro)) (by first | exact .inl rfl | (refine .inr ⟨trivial, ?_⟩; first | (intro row h; rcases List.mem_singleton.1 h with rfl; exact nvB _) | (intro row h; cases h; done) | (simp; done)) | (refine .inr ⟨by simp [nvP, nvP.nvPs, nvD, nilS, errno], ?_⟩; first | (intro row h; rcases List.mem_singleton.1 h with rfl; exact nvB _) | (intro row h; cases h; done) | (simp [nvRow, nvD, nvP]; done))) ?_
            simp only [takeLR, errno, am, simprocAttr, tys]
            refine ACall.of (ints2G (.lit (.int .u8 c.toNat)) (.sl 2 (l.map encL)) nlD 0 0 r1 hr1 u r2 hn1 hr0 hn2) [449, 705] [] rfl (by simp) (by simp) (by simp) (by repeat' (first | exact trivial | exact .inl rfl | exact .inr rfl | exact .inr ⟨rfl, rfl, rfl, by simp; done⟩ | exact .inr ⟨rfl, by simp; done⟩ | exact .inr ⟨rfl, rfl, by simp; done⟩ | apply And.intro)) (by repeat' (first | exact trivial | rfl | exact (tkC_ren.1 _ _).symm | (simp; done) | apply And.intro)) (by first | exact .inl rfl | (refine .inr ⟨trivial, ?_⟩; first | (intro row h; rcases List.mem_singleton.1 h with rfl; exact nvB _) | (intro row h; cases h; done) | (simp; done)) | (refine .inr ⟨by simp [nvP, nvP.nvPs, nvD, nilS, errno], ?_⟩; first | (intro row h; rcases List.mem_singleton.1 h with rfl; exact nvB _) | (intro row h; cases h; done) | (simp [nvRow, nvD, nvP]; done))) ?_
            simp only [bool, int, nlD, i64D, byts, nilS, errno, FinR, evRes, evRVs, evRV, am, simprocAttr, tys]
            exact ⟨_, [], [], rfl, Ent.plain rfl rfl rfl trivial rfl, rfl, rfl⟩
        · refine hok (c, l, (unfold' u, unfold' u2, ()), [], ()) r3 [.lit (.int .u8 c.toNat), .sl 2 (l.map encL), i64D (unfold' u), i64D (unfold' u2), nlD] (by unfold takeK; rw [if_pos k1, hk]; simp only [hn1, hn2]) ⟨.inl rfl, .inl rfl, .inl rfl, .inl rfl, .inr ⟨rfl, 3, rfl⟩, trivial⟩ ?_
          generalize (c :: r : List UInt8) = bb at *
          refine AFun.of_walk hP Try.func66 rfl rfl rfl (by simp) rfl ?_
          simp only [Try.f66, byts, hE, hI, hI1, h0, encB, Int.toNat_zero, ← List.map_drop, ← List.map_take, List.take_length, hd, Int.toNat_one, Int.toNat_natCast, am, simprocAttr, tys]
          refine ⟨Int.le_refl _, ?_⟩
          refine ACallD.of (cloneB r (by omega)) (by kernel_rfl) [] [] rfl (by simp) (by simp) (by simp) (by simp) (by repeat' (first | exact trivial | exact .inl rfl | exact .inr rfl | exact .inr ⟨rfl, rfl, rfl, by simp; done⟩ | exact .inr ⟨rfl, by simp; done⟩ | exact .inr ⟨rfl, rfl, by simp; done⟩ | apply And.intro)) (by repeat' (first | exact trivial | rfl | exact (tkC_ren.1 _ _).symm | (simp; done) | apply And.intro)) (by first | exact .inl rfl | (refine .inr ⟨trivial, ?_⟩; first | (intro row h; rcases List.mem_singleton.1 h with rfl; exact nvB _) | (intro row h; cases h; done) | (simp; done)) | (refine .inr ⟨by simp [nvP, nvP.nvPs, nvD, nilS, errno], ?_⟩; first | (intro row h; rcases List.mem_singleton.1 h with rfl; exact nvB _) | (intro row h; cases h; done) | (simp [nvRow, nvD, nvP]; done))) rfl rfl rfl rfl ?_
          simp only [byts, e1, d1, am, simprocAttr, tys]
          refine ⟨by kernel_rfl, ?_⟩
          refine ACall.of (cT) [] [] rfl (by simp) (by simp) (by simp) (by repeat' (first | exact trivial | exact .inl rfl | exact .inr rfl | exact .inr ⟨rfl, rfl, rfl, by simp; done⟩ | exact .inr ⟨rfl, by simp; done⟩ | exact .inr ⟨rfl, rfl, by simp; done⟩ | apply And.intro)) (by repeat' (first | exact trivial | rfl | exact (tkC_ren.1 _ _).symm | (simp; done) | apply And.intro)) (by first | exact .inl rfl | (refine .inr ⟨trivial, ?_⟩; first | (intro row h; rcases List.mem_singleton.1 h with rfl; exact nvB _) | (intro row h; cases h; done) | (simp; done)) | (refine .inr ⟨by simp [nvP, nvP.nvPs, nvD, nilS, errno], ?_⟩; first | (intro row h; rcases List.mem_singleton.1 h with rfl; exact nvB _) | (intro row h; cases h; done) | (simp [nvRow, nvD, nvP]; done))) ?_
          simp only [takeLR, errno, am, simprocAttr, tys]
          refine ACall.of (ints2Y (.lit (.int .u8 c.toNat)) (.sl 2 (l.map encL)) nlD 0 0 r1 hr1 u r2 hn1 u2 r3 hn2) [449, 705] [] rfl (by simp) (by simp) (by simp) (by repeat' (first | exact trivial | exact .inl rfl | exact .inr rfl | exact .inr ⟨rfl, rfl, rfl, by simp; done⟩ | exact .inr ⟨rfl, by simp; done⟩ | exact .inr ⟨rfl, rfl, by simp; done⟩ | apply And.intro)) (by repeat' (first | exact trivial | rfl | exact (tkC_ren.1 _ _).symm | (simp; done) | apply And.intro)) (by first | exact .inl rfl | (refine .inr ⟨trivial, ?_⟩; first | (intro row h; rcases List.mem_singleton.1 h with rfl; exact nvB _) | (intro row h; cases h; done) | (simp; done)) | (refine .inr ⟨by simp [nvP, nvP.nvPs, nvD, nilS, errno], ?_⟩; first | (intro row h; rcases List.mem_singleton.1 h with rfl; exact nvB _) | (intro row h; cases h; done) | (simp [nvRow, nvD, nvP]; done))) ?_
          simp only [bool, int, nlD, i64D, byts, nilS, errno, FinR, evRes, evRVs, evRV, am, simprocAttr, tys]
          exact ⟨_, [], [], rfl, Ent.plain rfl rfl rfl trivial rfl, rfl, rfl⟩
  · have d1 : decide (c = 1) = false := decide_eq_false k1
    by_cases k3 : c = 3
    · have d3 : decide (c = 3) = true := decide_eq_true k3
      rcases hn1 : takeNum r with _ | ⟨u, r1⟩
      · refine hfail2 (by unfold takeK; rw [if_neg k1, if_pos k3, hn1]) ?_
        by_cases hr0 : r = []
        · skip
          generalize (c :: r : List UInt8) = bb at *
          refine AFun.of_walk hP Try.func66 rfl rfl rfl (by simp) rfl ?_
          simp only [Try.f66, byts, hE, hI, hI1, h0, encB, Int.toNat_zero, ← List.map_drop, ← List.map_take, List.take_length, hd, Int.toNat_one, Int.toNat_natCast, am, simprocAttr, tys]
          refine ⟨Int.le_refl _, ?_⟩
          refine ACallD.of (cloneB r (by omega)) (by kernel_rfl) [] [] rfl (by simp) (by simp) (by simp) (by simp) (by repeat' (first | exact trivial | exact .inl rfl | exact .inr rfl | exact .inr ⟨rfl, rfl, rfl, by simp; done⟩ | exact .inr ⟨rfl, by simp; done⟩ | exact .inr ⟨rfl, rfl, by simp; done⟩ | apply And.intro)) (by repeat' (first | exact trivial | rfl | exact (tkC_ren.1 _ _).symm | (simp; done) | apply And.intro)) (by first | exact .inl rfl | (refine .inr ⟨trivial, ?_⟩; first | (intro row h; rcases List.mem_singleton.1 h with rfl; exact nvB _) | (intro row h; cases h; done) | (simp; done)) | (refine .inr ⟨by simp [nvP, nvP.nvPs, nvD, nilS, errno], ?_⟩; first | (intro row h; rcases List.mem_singleton.1 h with rfl; exact nvB _) | (intro row h; cases h; done) | (simp [nvRow, nvD, nvP]; done))) rfl rfl rfl rfl ?_
          simp only [byts, e1, d1, e3, d3, am, simprocAttr, tys]
          refine ⟨by kernel_rfl, ?_⟩
          refine ACall.of (ints1E (.lit (.int .u8 c.toNat)) nlD nlD 0 0 r (by omega) hr0) [449, 705] [] rfl (by simp) (by simp) (by simp) (by repeat' (first | exact trivial | exact .inl rfl | exact .inr rfl | exact .inr ⟨rfl, rfl, rfl, by simp; done⟩ | exact .inr ⟨rfl, by simp; done⟩ | exact .inr ⟨rfl, rfl, by simp; done⟩ | apply And.intro)) (by repeat' (first | exact trivial | rfl | exact (tkC_ren.1 _ _).symm | (simp; done) | apply And.intro)) (by first | exact .inl rfl | (refine .inr ⟨trivial, ?_⟩; first | (intro row h; rcases List.mem_singleton.1 h with rfl; exact nvB _) | (intro row h; cases h; done) | (simp; done)) | (refine .inr ⟨by simp [nvP, nvP.nvPs, nvD, nilS, errno], ?_⟩; first | (intro row h; rcases List.mem_singleton.1 h with rfl; exact nvB _) | (intro row h; cases h; done) | (simp [nvRow, nvD, nvP]; done))) ?_
          simp only [bool, int, nlD, i64D, byts, nilS, errno, FinR, evRes, evRVs, evRV, am, simprocAttr, tys]
          exact ⟨_, [], [], rfl, Ent.plain rfl rfl rfl trivial rfl, rfl, rfl⟩
        · skip
          generalize (c :: r : List UInt8) = bb at *
          refine AFun.of_walk hP Try.func66 rfl rfl rfl (by simp) rfl ?_
          simp only [Try.f66, byts, hE, hI, hI1, h0, encB, Int.toNat_zero, ← List.map_drop, ← List.map_take, List.take_length, hd, Int.toNat_one, Int.toNat_natCast, am, simprocAttr, tys]
          refine ⟨Int.le_refl _, ?_⟩
          refine ACallD.of (cloneB r (by omega)) (by kernel_rfl) [] [] rfl (by simp) (by simp) (by simp) (by simp) (by repeat' (first | exact trivial | exact .inl rfl | exact .inr rfl | exact .inr ⟨rfl, rfl, rfl, by simp; done⟩ | exact .inr ⟨rfl, by simp; done⟩ | exact .inr ⟨rfl, rfl, by simp; done⟩ | apply And.intro)) (by repeat' (first | exact trivial | rfl | exact (tkC_ren.1 _ _).symm | (simp; done) | apply And.intro)) (by first | exact .inl rfl | (refine .inr ⟨trivial, ?_⟩; first | (intro row h; rcases List.mem_singleton.1 h with rfl; exact nvB _) | (intro row h; cases h; done) | (simp; done)) | (refine .inr ⟨by simp [nvP, nvP.nvPs, nvD, nilS, errno], ?_⟩; first | (intro row h; rcases List.mem_singleton.1 h with rfl; exact nvB _) | (intro row h; cases h; done) | (simp [nvRow, nvD, nvP]; done))) rfl rfl rfl rfl ?_
          simp only [byts, e1, d1, e3, d3, am, simprocAttr, tys]
          refine ⟨by kernel_rfl, ?_⟩
          refine ACall.of (ints1M (.lit (.int .u8 c.toNat)) nlD nlD 0 0 r (by omega) hr0 hn1) [449, 705] [] rfl (by simp) (by simp) (by simp) (by repeat' (first | exact trivial | exact .inl rfl | exact .inr rfl | exact .inr ⟨rfl, rfl, rfl, by simp; done⟩ | exact .inr ⟨rfl, by simp; done⟩ | exact .inr ⟨rfl, rfl, by simp; done⟩ | apply And.intro)) (by repeat' (first | exact trivial | rfl | exact (tkC_ren.1 _ _).symm | (simp; done) | apply And.intro)) (by first | exact .inl rfl | (refine .inr ⟨trivial, ?_⟩; first | (intro row h; rcases List.mem_singleton.1 h with rfl; exact nvB _) | (intro row h; cases h; done) | (simp; done)) | (refine .inr ⟨by simp [nvP, nvP.nvPs, nvD, nilS, errno], ?_⟩; first | (intro row h; rcases List.mem_singleton.1 h with rfl; exact nvB _) | (intro row h; cases h; done) | (simp [nvRow, nvD, nvP]; done))) ?_
          simp only [bool, int, nlD, i64D, byts, nilS, errno, FinR, evRes, evRVs, evRV, am, simprocAttr, tys]
          exact ⟨_, [], [], rfl, Ent.plain rfl rfl rfl trivial rfl, rfl, rfl⟩
      · refine hok (c, [], (unfold' u, 0, ()), [], ()) r1 [.lit (.int .u8 c.toNat), nlD, i64D (unfold' u), i64D 0, nlD] (by unfold takeK; rw [if_neg k1, if_pos k3, hn1]) ⟨.inl rfl, .inr ⟨rfl, 2, rfl⟩, .inl rfl, .inl rfl, .inr ⟨rfl, 3, rfl⟩, trivial⟩ ?_
        generalize (c :: r : List UInt8) = bb at *
        refine AFun.of_walk hP Try.func66 rfl rfl rfl (by simp) rfl ?_
        simp only [Try.f66, byts, hE, hI, hI1, h0, encB, Int.toNat_zero, ← List.map_drop, ← List.map_take, List.take_length, hd, Int.toNat_one, Int.toNat_natCast, am, simprocAttr, tys]
        refine ⟨Int.le_refl _, ?_⟩
        refine ACallD.of (cloneB r (by omega)) (by kernel_rfl) [] [] rfl (by simp) (by simp) (by simp) (by simp) (by repeat' (first | exact trivial | exact .inl rfl | exact .inr rfl | exact .inr ⟨rfl, rfl, rfl, by simp; done⟩ | exact .inr ⟨rfl, by simp; done⟩ | exact .inr ⟨rfl, rfl, by simp; done⟩ | apply And.intro)) (by repeat' (first | exact trivial | rfl | exact (tkC_ren.1 _ _).symm | (simp; done) | apply And.intro)) (by first | exact .inl rfl | (refine .inr ⟨trivial, ?_⟩; first | (intro row h; rcases List.mem_singleton.1 h with rfl; exact nvB _) | (intro row h; cases h; done) | (simp; done)) | (refine .inr ⟨by simp [nvP, nvP.nvPs, nvD, nilS, errno], ?_⟩; first | (intro row h; rcases List.mem_singleton.1 h with rfl; exact nvB _) | (intro row h; cases h; done) | (simp [nvRow, nvD, nvP]; done))) rfl rfl rfl rfl ?_
        simp only [byts, e1, d1, e3, d3, am, simprocAttr, tys]
        refine ⟨by kernel_rfl, ?_⟩
        refine ACall.of (ints1Y (.lit (.int .u8 c.toNat)) nlD nlD 0 0 r (by omega) u r1 hn1) [449, 705] [] rfl (by simp) (by simp) (by simp) (by repeat' (first | exact trivial | exact .inl rfl | exact .inr rfl | exact .inr ⟨rfl, rfl, rfl, by simp; done⟩ | exact .inr ⟨rfl, by simp; done⟩ | exact .inr ⟨rfl, rfl, by simp; done⟩ | apply And.intro)) (by repeat' (first | exact trivial | rfl | exact (tkC_ren.1 _ _).symm | (simp; done) | apply And.intro)) (by first | exact .inl rfl | (refine .inr ⟨trivial, ?_⟩; first | (intro row h; rcases List.mem_singleton.1 h with rfl; exact nvB _) | (intro row h; cases h; done) | (simp; done)) | (refine .inr ⟨by simp [nvP, nvP.nvPs, nvD, nilS, errno], ?_⟩; first | (intro row h; rcases List.mem_singleton.1 h with rfl; exact nvB _) | (intro row h; cases h; done) | (simp [nvRow, nvD, nvP]; done))) ?_
        simp only [bool, int, nlD, i64D, byts, nilS, errno, FinR, evRes, evRVs, evRV, am, simprocAttr, tys]
        exact ⟨_, [], [], rfl, Ent.plain rfl rfl rfl trivial rfl, rfl, rfl⟩
    · have d3 : decide (c = 3) = false := decide_eq_false k3
      by_cases k4 : c = 4
      · have d4 : decide (c = 4) = true := decide_eq_true k4
        have cT := matchTake r (by omega)
        rcases hk : takeA r with _ | ⟨l, r1⟩
        · refine hfail2 (by unfold takeK; rw [if_neg k1, if_neg k3, if_pos k4, hk]) ?_
          rw [hk] at cT
          generalize (c :: r : List UInt8) = bb at *
          refine AFun.of_walk hP Try.func66 rfl rfl rfl (by simp) rfl ?_
          simp only [Try.f66, byts, hE, hI, hI1, h0, encB, Int.toNat_zero, ← List.map_drop, ← List.map_take, List.take_length, hd, Int.toNat_one, Int.toNat_natCast, am, simprocAttr, tys]
          refine ⟨Int.le_refl _, ?_⟩
          refine ACallD.of (cloneB r (by omega)) (by kernel_rfl) [] [] rfl (by simp) (by simp) (by simp) (by simp) (by repeat' (first | exact trivial | exact .inl rfl | exact .inr rfl | exact .inr ⟨rfl, rfl, rfl, by simp; done⟩ | exact .inr ⟨rfl, by simp; done⟩ | exact .inr ⟨rfl, rfl, by simp; done⟩ | apply And.intro)) (by repeat' (first | exact trivial | rfl | exact (tkC_ren.1 _ _).symm | (simp; done) | apply And.intro)) (by first | exact .inl rfl | (refine .inr ⟨trivial, ?_⟩; first | (intro row h; rcases List.mem_singleton.1 h with rfl; exact nvB _) | (intro row h; cases h; done) | (simp; done)) | (refine .inr ⟨by simp [nvP, nvP.nvPs, nvD, nilS, errno], ?_⟩; first | (intro row h; rcases List.mem_singleton.1 h with rfl; exact nvB _) | (intro row h; cases h; done) | (simp [nvRow, nvD, nvP]; done))) rfl rfl rfl rfl ?_
          simp only [byts, e1, d1, e3, d3, e4, d4, am, simprocAttr, tys]
          refine ⟨by kernel_rfl, ?_⟩
          refine ACall.of (cT) [] [] rfl (by simp) (by simp) (by simp) (by repeat' (first | exact trivial | exact .inl rfl | exact .inr rfl | exact .inr ⟨rfl, rfl, rfl, by simp; done⟩ | exact .inr ⟨rfl, by simp; done⟩ | exact .inr ⟨rfl, rfl, by simp; done⟩ | apply And.intro)) (by repeat' (first | exact trivial | rfl | exact (tkC_ren.1 _ _).symm | (simp; done) | apply And.intro)) (by first | exact .inl rfl | (refine .inr ⟨trivial, ?_⟩; first | (intro row h; rcases List.mem_singleton.1 h with rfl; exact nvB _) | (intro row h; cases h; done) | (simp; done)) | (refine .inr ⟨by simp [nvP, nvP.nvPs, nvD, nilS, errno], ?_⟩; first | (intro row h; rcases List.mem_singleton.1 h with rfl; exact nvB _) | (intro row h; cases h; done) | (simp [nvRow, nvD, nvP]; done))) ?_
          simp only [takeAR, nilS, errno, FinR, evRes, evRVs, evRV, am, simprocAttr, tys]
          exact ⟨_, [], [], rfl, Ent.plain rfl rfl rfl trivial rfl, rfl, rfl⟩
        · refine hok (c, [], (0, 0, ()), l, ()) r1 [.lit (.int .u8 c.toNat), nlD, i64D 0, i64D 0, .sl 3 (l.map encA)] (by unfold takeK; rw [if_neg k1, if_neg k3, if_pos k4, hk]) ⟨.inl rfl, .inr ⟨rfl, 2, rfl⟩, .inl rfl, .inl rfl, .inl rfl, trivial⟩ ?_
          rw [hk] at cT
          generalize (c :: r : List UInt8) = bb at *
          refine AFun.of_walk hP Try.func66 rfl rfl rfl (by simp) rfl ?_
          simp only [Try.f66, byts, hE, hI, hI1, h0, encB, Int.toNat_zero, ← List.map_drop, ← List.map_take, List.take_length, hd, Int.toNat_one, Int.toNat_natCast, am, simprocAttr, tys]
          refine ⟨Int.le_refl _, ?_⟩
          refine ACallD.of (cloneB r (by omega)) (by kernel_rfl) [] [] rfl (by simp) (by simp) (by simp) (by simp) (by repeat' (first | exact trivial | exact .inl rfl | exact .inr rfl | exact .inr ⟨rfl, rfl, rfl, by simp; done⟩ | exact .inr ⟨rfl, by simp; done⟩ | exact .inr ⟨rfl, rfl, by simp; done⟩ | apply And.intro)) (by repeat' (first | exact trivial | rfl | exact (tkC_ren.1 _ _).symm | (simp; done) | apply And.intro)) (by first | exact .inl rfl | (refine .inr ⟨trivial, ?_⟩; first | (intro row h; rcases List.mem_singleton.1 h with rfl; exact nvB _) | (intro row h; cases h; done) | (simp; done)) | (refine .inr ⟨by simp [nvP, nvP.nvPs, nvD, nilS, errno], ?_⟩; first | (intro row h; rcases List.mem_singleton.1 h with rfl; exact nvB _) | (intro row h; cases h; done) | (simp [nvRow, nvD, nvP]; done))) rfl rfl rfl rfl ?_
          simp only [byts, e1, d1, e3, d3, e4, d4, am, simprocAttr, tys]
          refine ⟨by kernel_rfl, ?_⟩
          refine ACall.of (cT) [] [] rfl (by simp) (by simp) (by simp) (by repeat' (first | exact trivial | exact .inl rfl | exact .inr rfl | exact .inr ⟨rfl, rfl, rfl, by simp; done⟩ | exact .inr ⟨rfl, by simp; done⟩ | exact .inr ⟨rfl, rfl, by simp; done⟩ | apply And.intro)) (by repeat' (first | exact trivial | rfl | exact (tkC_ren.1 _ _).symm | (simp; done) | apply And.intro)) (by first | exact .inl rfl | (refine .inr ⟨trivial, ?_⟩; first | (intro row h; rcases List.mem_singleton.1 h with rfl; exact nvB _) | (intro row h; cases h; done) | (simp; done)) | (refine .inr ⟨by simp [nvP, nvP.nvPs, nvD, nilS, errno], ?_⟩; first | (intro row h; rcases List.mem_singleton.1 h with rfl; exact nvB _) | (intro row h; cases h; done) | (simp [nvRow, nvD, nvP]; done))) ?_
          simp only [takeAR, byts, errno, FinR, evRes, evRVs, evRV, am, simprocAttr, tys]
          exact ⟨_, [], [], rfl, Ent.plain rfl rfl rfl trivial rfl, rfl, rfl⟩
      · have d4 : decide (c = 4) = false := decide_eq_false k4
        by_cases k2 : c = 2
        · have d2 : decide (c = 2) = true := decide_eq_true k2
          refine hok (c, [], (0, 0, ()), [], ()) r [.lit (.int .u8 c.toNat), nlD, i64D 0, i64D 0, nlD] (by unfold takeK; rw [if_neg k1, if_neg k3, if_neg k4, if_pos k2]) ⟨.inl rfl, .inr ⟨rfl, 2, rfl⟩, .inl rfl, .inl rfl, .inr ⟨rfl, 3, rfl⟩, trivial⟩ ?_
          generalize (c :: r : List UInt8) = bb at *
          refine AFun.of_walk hP Try.func66 rfl rfl rfl (by simp) rfl ?_
          simp only [Try.f66, byts, hE, hI, hI1, h0, encB, Int.toNat_zero, ← List.map_drop, ← List.map_take, List.take_length, hd, Int.toNat_one, Int.toNat_natCast, am, simprocAttr, tys]
          refine ⟨Int.le_refl _, ?_⟩
          refine ACallD.of (cloneB r (by omega)) (by kernel_rfl) [] [] rfl (by simp) (by simp) (by simp) (by simp) (by repeat' (first | exact trivial | exact .inl rfl | exact .inr rfl | exact .inr ⟨rfl, rfl, rfl, by simp; done⟩ | exact .inr ⟨rfl, by simp; done⟩ | exact .inr ⟨rfl, rfl, by simp; done⟩ | apply And.intro)) (by repeat' (first | exact trivial | rfl | exact (tkC_ren.1 _ _).symm | (simp; done) | apply And.intro)) (by first | exact .inl rfl | (refine .inr ⟨trivial, ?_⟩; first | (intro row h; rcases List.mem_singleton.1 h with rfl; exact nvB _) | (intro row h; cases h; done) | (simp; done)) | (refine .inr ⟨by simp [nvP, nvP.nvPs, nvD, nilS, errno], ?_⟩; first | (intro row h; rcases List.mem_singleton.1 h with rfl; exact nvB _) | (intro row h; cases h; done) | (simp [nvRow, nvD, nvP]; done))) rfl rfl rfl rfl ?_
          simp only [byts, nilS, errno, e1, d1, e3, d3, e4, d4, e2, d2, FinR, evRes, evRVs, evRV, am, simprocAttr, tys]
          exact ⟨by kernel_rfl, ⟨_, [], [], rfl, Ent.plain rfl rfl rfl trivial rfl, rfl, rfl⟩⟩
        · have d2 : decide (c = 2) = false := decide_eq_false k2
          refine hfail2 (by unfold takeK; rw [if_neg k1, if_neg k3, if_neg k4, if_neg k2]) ?_
          generalize (c :: r : List UInt8) = bb at *
          refine AFun.of_walk hP Try.func66 rfl rfl rfl (by simp) rfl ?_
          simp only [Try.f66, byts, hE, hI, hI1, h0, encB, Int.toNat_zero, ← List.map_drop, ← List.map_take, List.take_length, hd, Int.toNat_one, Int.toNat_natCast, am, simprocAttr, tys]
          refine ⟨Int.le_refl _, ?_⟩
          refine ACallD.of (cloneB r (by omega)) (by kernel_rfl) [] [] rfl (by simp) (by simp) (by simp) (by simp) (by repeat' (first | exact trivial | exact .inl rfl | exact .inr rfl | exact .inr ⟨rfl, rfl, rfl, by simp; done⟩ | exact .inr ⟨rfl, by simp; done⟩ | exact .inr ⟨rfl, rfl, by simp; done⟩ | apply And.intro)) (by repeat' (first | exact trivial | rfl | exact (tkC_ren.1 _ _).symm | (simp; done) | apply And.intro)) (by first | exact .inl rfl | (refine .inr ⟨trivial, ?_⟩; first | (intro row h; rcases List.mem_singleton.1 h with rfl; exact nvB _) | (intro row h; cases h; done) | (simp; done)) | (refine .inr ⟨by simp [nvP, nvP.nvPs, nvD, nilS, errno], ?_⟩; first | (intro row h; rcases List.mem_singleton.1 h with rfl; exact nvB _) | (intro row h; cases h; done) | (simp [nvRow, nvD, nvP]; done))) rfl rfl rfl rfl ?_
          simp only [byts, nilS, errno, e1, d1, e3, d3, e4, d4, e2, d2, FinR, evRes, evRVs, evRV, am, simprocAttr, tys]
          exact ⟨by kernel_rfl, ⟨_, [], [], rfl, Ent.plain rfl rfl rfl trivial rfl, rfl, rfl⟩⟩

theorem opTake (b : List UInt8) (hl : b.length ≤ 10000000) : AFun Try.prog 66 [byts b] [] (takeOR (takeO b)) [] := by
  rcases b with _ | ⟨c, r⟩
  · exact AFun.cle opTakeE ⟨.inl rfl, .inr ⟨rfl, 2, rfl⟩, .inl rfl, .inl rfl, .inr ⟨rfl, 3, rfl⟩, trivial⟩
  · exact opTakeC c r (by simp at hl; omega)
end Go.Proofs.Ytflpphgccjlkjaa
