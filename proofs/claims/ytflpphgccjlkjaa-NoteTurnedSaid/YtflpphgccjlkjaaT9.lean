/- Proved here: what the functions of the program compute. No condition. -/
import Derived.Test.YtflpphgccjlkjaaT8
set_option linter.all false
set_option linter.unusedSimpArgs false
set_option linter.unusedVariables false
set_option linter.unusedSimpArgs false
set_option linter.unusedVariables false
namespace Go.Proofs.Ytflpphgccjlkjaa
open Go Go.AM

theorem cle2 {f : Nat} {args : List PV} {A B : List DV} {x : DV} (h : AFun Try.prog f args [] (.tup [.d (.agg A), .d x]) []) (hc : cle A B) : AFun Try.prog f args [] (.tup [.d (.agg B), .d x]) [] := by
  refine AFun.weaken h ?_ ?_
  · exact ⟨trivial, trivial, trivial⟩
  · intro rows β w X v h
    unfold repP at h ⊢
    obtain ⟨vs, rfl, h⟩ := h
    refine ⟨vs, rfl, ?_⟩
    unfold repPs at h ⊢
    obtain ⟨u, us, rfl, h1, h2⟩ := h
    refine ⟨u, us, rfl, ?_, h2⟩
    unfold repP rep at h1 ⊢
    obtain ⟨vs', e, h1⟩ := h1
    exact ⟨vs', e, reps_cle hc h1⟩
def zeroN : NT := ⟨0, 0, 0, 0, 0, 0, 0, false, 0, 0, 0, 0, 0, 0, 0, []⟩
def takeNR : Option NT → PV
  | none => .tup [.d (.agg (encN zeroN)), errno 6]
  | some x => .tup [.d (.agg (encN x)), errno 0]
abbrev failC : List DV := [.lit (.int .u8 0), .lit (.int .i64 0), .lit (.int .i64 0), .lit (.int .i64 0), .lit (.int .i64 0), .lit (.int .i64 0), .lit (.int .i64 0), .lit (.bool false), .lit (.int .i64 0), .lit (.int .i64 0), .lit (.int .i64 0), .lit (.int .i64 0), .lit (.int .i64 0), .lit (.int .i64 0), .lit (.int .i64 0), nlD]
abbrev failNP : PV := .tup [.d (.agg failC), errno 6]
def takeNW : Option NT → PV
  | none => failNP
  | some x => .tup [.d (.agg (encN x)), errno 0]
theorem failN_ok {f : Nat} {b : List UInt8} (h : AFun Try.prog f [byts b] [] failNP []) : AFun Try.prog f [byts b] [] (takeNR none) [] :=
  cle2 h ⟨.inl rfl, .inl rfl, .inl rfl, .inl rfl, .inl rfl, .inl rfl, .inl rfl, .inl rfl, .inl rfl, .inl rfl, .inl rfl, .inl rfl, .inl rfl, .inl rfl, .inl rfl, .inr ⟨rfl, 7, rfl⟩, trivial⟩

def vA (r : List UInt8) (i j : Nat) : Int := if j < i then numI (uS r j) else 0
def cA (k : UInt8) (r : List UInt8) (i : Nat) : List PV := [.d (.lit (.int .u8 k.toNat)), int (vA r i 0), int (vA r i 1), int (vA r i 2), int (vA r i 3), int (vA r i 4), int (vA r i 5), bool (decide (6 < i) && (uS r 6 == 1)), int (vA r i 7), int (vA r i 8), int (vA r i 9), int (vA r i 10), int (vA r i 11), int (vA r i 12), int (vA r i 13), .d nlD]
def nums1 : List PV := [.ptr 1 1, .ptr 1 2, .ptr 1 3, .ptr 1 4, .ptr 1 5, .ptr 1 6, nilP, .ptr 1 8, .ptr 1 9, .ptr 1 10, .ptr 1 11, .ptr 1 12, .ptr 1 13, .ptr 1 14]
theorem tS_B (r : List UInt8) : ∀ i, TkB r.length (tS r i)
  | 0 => fun bs h => by cases h; exact Nat.le_refl _
  | i + 1 => numT_B _ (tS_B r i)
theorem tS_suf (r : List UInt8) : ∀ (i : Nat) (q : List UInt8), tS r i = some q → ∃ p, r = p ++ q
  | 0, q, h => ⟨[], by cases h; rfl⟩
  | i + 1, q, h => by
    obtain ⟨_, h2⟩ := tS_step h
    obtain ⟨p, hp⟩ := tS_suf r i _ h2
    exact ⟨p ++ leb (uS r i), by rw [List.append_assoc]; exact hp⟩
theorem takeSeal_len {b x rest : List UInt8} (h : takeSeal b = some (x, rest)) : x.length ≤ b.length := by
  obtain ⟨h1, _⟩ := takeSeal_some h
  rw [h1, List.length_append, sealed_len]; omega

set_option maxRecDepth 8000 in
set_option maxHeartbeats 8000000 in
theorem noteTakeW (b : List UInt8) (hb : b.length ≤ 10000000) : AFun Try.prog 19 [byts b] [] (takeNW (takeN b)) [] := by
  have cS := sealTake b (by omega)
  rcases hs : takeSeal b with _ | ⟨x, rest⟩
  · have ht : takeN b = none := by unfold takeN; rw [hs]
    rw [ht]; rw [hs] at cS
    show AFun Try.prog 19 [byts b] [] failNP []
    refine AFun.of_walk hP Try.func19 rfl rfl rfl (by simp) rfl ?_
    simp only [Try.f19, am, simprocAttr, tys]
    refine ACall.of (cS) [] [] rfl (by simp) (by simp) (by simp) (by repeat' (first | exact trivial | exact .inl rfl | exact .inr rfl | exact .inr ⟨rfl, rfl, rfl, by simp; done⟩ | exact .inr ⟨rfl, by simp; done⟩ | exact .inr ⟨rfl, rfl, by simp; done⟩ | apply And.intro)) (by repeat' (first | exact trivial | rfl | exact (tkC_ren.1 _ _).symm | (simp; done) | apply And.intro)) (by first | exact .inl rfl | (refine .inr ⟨trivial, ?_⟩; first | (intro row h; rcases List.mem_singleton.1 h with rfl; exact nvB _) | (intro row h; cases h; done) | (simp; done)) | (refine .inr ⟨by simp [nvP, nvP.nvPs, nvD, nilS, errno], ?_⟩; first | (intro row h; rcases List.mem_singleton.1 h with rfl; exact nvB _) | (intro row h; cases h; done) | (simp [nvRow, nvD, nvP]; done))) ?_
    simp only [takeR, nilS, errno, FinR, evRes, evRVs, evRV, am, simprocAttr, tys]
    exact ⟨_, [], [], rfl, Ent.plain rfl rfl rfl trivial rfl, rfl, rfl⟩
  rw [hs] at cS
  have hxl := takeSeal_len hs
  rcases rest with _ | ⟨c, cs⟩
  case' cons =>
    have ht : takeN b = none := by unfold takeN; rw [hs]; cases x <;> rfl
    rw [ht]
    show AFun Try.prog 19 [byts b] [] failNP []
    refine AFun.of_walk hP Try.func19 rfl rfl rfl (by simp) rfl ?_
    have hI : ((0 : Int) < ((c :: cs : List UInt8).length : Nat)) := by rw [List.length_cons]; omega
    generalize (c :: cs : List UInt8) = rest at *
    simp only [Try.f19, am, simprocAttr, tys]
    refine ACall.of (cS) [] [] rfl (by simp) (by simp) (by simp) (by repeat' (first | exact trivial | exact .inl rfl | exact .inr rfl | exact .inr ⟨rfl, rfl, rfl, by simp; done⟩ | exact .inr ⟨rfl, by simp; done⟩ | exact .inr ⟨rfl, rfl, by simp; done⟩ | apply And.intro)) (by repeat' (first | exact trivial | rfl | exact (tkC_ren.1 _ _).symm | (simp; done) | apply And.intro)) (by first | exact .inl rfl | (refine .inr ⟨trivial, ?_⟩; first | (intro row h; rcases List.mem_singleton.1 h with rfl; exact nvB _) | (intro row h; cases h; done) | (simp; done)) | (refine .inr ⟨by simp [nvP, nvP.nvPs, nvD, nilS, errno], ?_⟩; first | (intro row h; rcases List.mem_singleton.1 h with rfl; exact nvB _) | (intro row h; cases h; done) | (simp [nvRow, nvD, nvP]; done))) ?_
    simp only [takeR, byts, errno, hI, List.length_map, FinR, evRes, evRVs, evRV, am, simprocAttr, tys]
    exact ⟨_, [], [], rfl, Ent.plain rfl rfl rfl trivial rfl, rfl, rfl⟩
  rcases x with _ | ⟨k, r⟩
  case' nil =>
    have ht : takeN b = none := by unfold takeN; rw [hs]
    rw [ht]
    show AFun Try.prog 19 [byts b] [] failNP []
    refine AFun.of_walk hP Try.func19 rfl rfl rfl (by simp) rfl ?_
    simp only [Try.f19, am, simprocAttr, tys]
    refine ACall.of (cS) [] [] rfl (by simp) (by simp) (by simp) (by repeat' (first | exact trivial | exact .inl rfl | exact .inr rfl | exact .inr ⟨rfl, rfl, rfl, by simp; done⟩ | exact .inr ⟨rfl, by simp; done⟩ | exact .inr ⟨rfl, rfl, by simp; done⟩ | apply And.intro)) (by repeat' (first | exact trivial | rfl | exact (tkC_ren.1 _ _).symm | (simp; done) | apply And.intro)) (by first | exact .inl rfl | (refine .inr ⟨trivial, ?_⟩; first | (intro row h; rcases List.mem_singleton.1 h with rfl; exact nvB _) | (intro row h; cases h; done) | (simp; done)) | (refine .inr ⟨by simp [nvP, nvP.nvPs, nvD, nilS, errno], ?_⟩; first | (intro row h; rcases List.mem_singleton.1 h with rfl; exact nvB _) | (intro row h; cases h; done) | (simp [nvRow, nvD, nvP]; done))) ?_
    simp only [takeR, byts, errno, List.length_nil, List.length_map, FinR, evRes, evRVs, evRV, am, simprocAttr, tys]
    exact ⟨_, [], [], rfl, Ent.plain rfl rfl rfl trivial rfl, rfl, rfl⟩
  have ht : takeN b = takeB k r := by unfold takeN; rw [hs]
  rw [ht]
  have hrl : r.length + 1 ≤ b.length := by simpa using hxl
  have hE : ((((k :: r : List UInt8).length : Nat) : Int) == 0) = false := by rw [beq_eq_false_iff_ne, List.length_cons]; omega
  have hI1 : ((1 : Int) ≤ (((k :: r : List UInt8).length : Nat) : Int)) := by rw [List.length_cons]; omega
  have h0 : (k :: r : List UInt8)[0]? = some k := rfl
  have hd1 : (k :: r : List UInt8).drop 1 = r := rfl
  have hlen : (k :: r : List UInt8).length = r.length + 1 := rfl
  have hsuf : ∀ q, tS r 15 = some q → (k :: r : List UInt8).drop ((k :: r : List UInt8).length - q.length) = q := fun q hq => by
    obtain ⟨p, hp⟩ := tS_suf r 15 q hq
    have e : (k :: r : List UInt8) = (k :: p) ++ q := by rw [hp]; rfl
    rw [e]; exact drop_tail _ _
  have hB := tS_B r
  generalize (k :: r : List UInt8) = xx at *
  refine AFun.of_walk hP Try.func19 rfl rfl rfl (by simp) rfl ?_
  simp only [Try.f19, am, simprocAttr, tys]
  refine ACall.of (cS) [] [] rfl (by simp) (by simp) (by simp) (by repeat' (first | exact trivial | exact .inl rfl | exact .inr rfl | exact .inr ⟨rfl, rfl, rfl, by simp; done⟩ | exact .inr ⟨rfl, by simp; done⟩ | exact .inr ⟨rfl, rfl, by simp; done⟩ | apply And.intro)) (by repeat' (first | exact trivial | rfl | exact (tkC_ren.1 _ _).symm | (simp; done) | apply And.intro)) (by first | exact .inl rfl | (refine .inr ⟨trivial, ?_⟩; first | (intro row h; rcases List.mem_singleton.1 h with rfl; exact nvB _) | (intro row h; cases h; done) | (simp; done)) | (refine .inr ⟨by simp [nvP, nvP.nvPs, nvD, nilS, errno], ?_⟩; first | (intro row h; rcases List.mem_singleton.1 h with rfl; exact nvB _) | (intro row h; cases h; done) | (simp [nvRow, nvD, nvP]; done))) ?_
  simp only [takeR, byts, errno, hE, hI1, h0, encB, List.length_nil, List.length_map, Int.toNat_zero, Int.toNat_one, Int.toNat_natCast, ← List.map_drop, ← List.map_take, List.take_length, hd1, am, simprocAttr, tys]
  refine ⟨Int.le_refl _, ?_⟩
  refine ACall.of (octsNew r (by omega)) [] [] rfl (by simp) (by simp) (by simp) (by repeat' (first | exact trivial | exact .inl rfl | exact .inr rfl | exact .inr ⟨rfl, rfl, rfl, by simp; done⟩ | exact .inr ⟨rfl, by simp; done⟩ | exact .inr ⟨rfl, rfl, by simp; done⟩ | apply And.intro)) (by repeat' (first | exact trivial | rfl | exact (tkC_ren.1 _ _).symm | (simp; done) | apply And.intro)) (by first | exact .inl rfl | (refine .inr ⟨trivial, ?_⟩; first | (intro row h; rcases List.mem_singleton.1 h with rfl; exact nvB _) | (intro row h; cases h; done) | (simp; done)) | (refine .inr ⟨by simp [nvP, nvP.nvPs, nvD, nilS, errno], ?_⟩; first | (intro row h; rcases List.mem_singleton.1 h with rfl; exact nvB _) | (intro row h; cases h; done) | (simp [nvRow, nvD, nvP]; done))) ?_
  simp only [tkC_ren, am, simprocAttr, tys]
  refine ACall.of (noteNumbersL (fun j => ([.lit (.int .u8 k.toNat), .lit (.int .i64 0), .lit (.int .i64 0), .lit (.int .i64 0), .lit (.int .i64 0), .lit (.int .i64 0), .lit (.int .i64 0), .lit (.bool false), .lit (.int .i64 0), .lit (.int .i64 0), .lit (.int .i64 0), .lit (.int .i64 0), .lit (.int .i64 0), .lit (.int .i64 0), .lit (.int .i64 0), nlD] : List DV).getD j.val nlD)) [1] [] rfl (by simp) (by simp) (by simp) (by repeat' (first | exact trivial | exact .inl rfl | exact .inr rfl | exact .inr ⟨rfl, rfl, rfl, by simp; done⟩ | exact .inr ⟨rfl, by simp; done⟩ | exact .inr ⟨rfl, rfl, by simp; done⟩ | apply And.intro)) (by repeat' (first | exact trivial | rfl | exact (tkC_ren.1 _ _).symm | (simp; done) | apply And.intro)) (by first | exact .inl rfl | (refine .inr ⟨trivial, ?_⟩; first | (intro row h; rcases List.mem_singleton.1 h with rfl; exact nvB _) | (intro row h; cases h; done) | (simp; done)) | (refine .inr ⟨by simp [nvP, nvP.nvPs, nvD, nilS, errno], ?_⟩; first | (intro row h; rcases List.mem_singleton.1 h with rfl; exact nvB _) | (intro row h; cases h; done) | (simp [nvRow, nvD, nvP]; done))) ?_
  simp only [nums, nilP, am, simprocAttr, tys]
  refine ALoopW.intro 102 0 (ι := { i : Nat // i ≤ 14 ∧ (6 < i → uS r 6 ≤ 1) }) (fun i => [(2, .ptr 0 0), (4, byts xx), (7, .ptr 1 0), (8, .ptr 2 0), (41, .own 3), (42, int 14), (43, int i.1)]) (fun i => [.box (failC.map .d), .box (cA k r i.1), .box (tkC (tS r i.1)), .box nums1]) (fun i => 14 - i.1) ⟨0, by omega, by omega⟩ [] [0, 1, 2, 3] ?_ (fun ⟨i, hi, h6i⟩ => ?_)
  · exact ⟨rfl, rfl, by simp, (fun i hi => absurd hi (Nat.not_lt_zero _)), ⟨.inr rfl, .inr rfl, .inr rfl, .inr rfl, .inr rfl, .inr rfl, .inr rfl, trivial⟩, ⟨.inr ⟨by decide, rfl⟩, .inr ⟨by decide, rfl⟩, .inr ⟨by decide, rfl⟩, .inr ⟨by decide, rfl⟩, trivial⟩, rfl, by decide, rfl, (by first | rfl | simp [scRow, tkC_scs])⟩
  simp only at hi h6i ⊢
  have hBj : ∀ j, ∀ bs, tS r j = some bs → bs.length ≤ 100000000000000 := fun j bs e => by have := hB j bs e; omega
  have hcases : i = 0 ∨ i = 1 ∨ i = 2 ∨ i = 3 ∨ i = 4 ∨ i = 5 ∨ i = 6 ∨ i = 7 ∨ i = 8 ∨ i = 9 ∨ i = 10 ∨ i = 11 ∨ i = 12 ∨ i = 13 ∨ i = 14 := by omega
  rcases hcases with rfl | rfl | rfl | rfl | rfl | rfl | rfl | rfl | rfl | rfl | rfl | rfl | rfl | rfl | rfl
  · simp only [cA, vA, nums1, int, bool, nilP, am, simprocAttr, tys]
    refine ACall.of (tkNum (tS r 0) (hBj 0)) [2] [] rfl (by simp) (by simp) (by simp) (by repeat' (first | exact trivial | exact .inl rfl | exact .inr rfl | exact .inr ⟨rfl, rfl, rfl, by simp; done⟩ | exact .inr ⟨rfl, by simp; done⟩ | exact .inr ⟨rfl, rfl, by simp; done⟩ | apply And.intro)) (by repeat' (first | exact trivial | rfl | exact (tkC_ren.1 _ _).symm | (simp; done) | apply And.intro)) (by first | exact .inl rfl | (refine .inr ⟨trivial, ?_⟩; first | (intro row h; rcases List.mem_singleton.1 h with rfl; exact nvB _) | (intro row h; cases h; done) | (simp; done)) | (refine .inr ⟨by simp [nvP, nvP.nvPs, nvD, nilS, errno], ?_⟩; first | (intro row h; rcases List.mem_singleton.1 h with rfl; exact nvB _) | (intro row h; cases h; done) | (simp [nvRow, nvD, nvP]; done))) ?_
    simp only [u64, cA, vA, nums1, int, bool, nilP, tkC_ren, am, simprocAttr, tys]
    exact ⟨⟨1, by omega, fun h => by omega⟩, [], [0, 1, 2, 3], ⟨rfl, rfl, by simp, (fun i hi => absurd hi (Nat.not_lt_zero _)), ⟨.inr rfl, .inr rfl, .inr rfl, .inr rfl, .inr rfl, .inr rfl, .inr rfl, trivial⟩, ⟨.inr ⟨by decide, rfl⟩, .inr ⟨by decide, rfl⟩, .inr ⟨by decide, tkC_row _ _ _ _⟩, .inr ⟨by decide, rfl⟩, trivial⟩, rfl, by decide, rfl, by simp [scRow, tkC_scs, scBs, scB]⟩, by show 14 - 1 < 14 - 0; omega⟩
  · simp only [cA, vA, nums1, int, bool, nilP, am, simprocAttr, tys]
    refine ACall.of (tkNum (tS r 1) (hBj 1)) [2] [] rfl (by simp) (by simp) (by simp) (by repeat' (first | exact trivial | exact .inl rfl | exact .inr rfl | exact .inr ⟨rfl, rfl, rfl, by simp; done⟩ | exact .inr ⟨rfl, by simp; done⟩ | exact .inr ⟨rfl, rfl, by simp; done⟩ | apply And.intro)) (by repeat' (first | exact trivial | rfl | exact (tkC_ren.1 _ _).symm | (simp; done) | apply And.intro)) (by first | exact .inl rfl | (refine .inr ⟨trivial, ?_⟩; first | (intro row h; rcases List.mem_singleton.1 h with rfl; exact nvB _) | (intro row h; cases h; done) | (simp; done)) | (refine .inr ⟨by simp [nvP, nvP.nvPs, nvD, nilS, errno], ?_⟩; first | (intro row h; rcases List.mem_singleton.1 h with rfl; exact nvB _) | (intro row h; cases h; done) | (simp [nvRow, nvD, nvP]; done))) ?_
    simp only [u64, cA, vA, nums1, int, bool, nilP, tkC_ren, am, simprocAttr, tys]
    exact ⟨⟨2, by omega, fun h => by omega⟩, [], [0, 1, 2, 3], ⟨rfl, rfl, by simp, (fun i hi => absurd hi (Nat.not_lt_zero _)), ⟨.inr rfl, .inr rfl, .inr rfl, .inr rfl, .inr rfl, .inr rfl, .inr rfl, trivial⟩, ⟨.inr ⟨by decide, rfl⟩, .inr ⟨by decide, rfl⟩, .inr ⟨by decide, tkC_row _ _ _ _⟩, .inr ⟨by decide, rfl⟩, trivial⟩, rfl, by decide, rfl, by simp [scRow, tkC_scs, scBs, scB]⟩, by show 14 - 2 < 14 - 1; omega⟩
  · simp only [cA, vA, nums1, int, bool, nilP, am, simprocAttr, tys]
    refine ACall.of (tkNum (tS r 2) (hBj 2)) [2] [] rfl (by simp) (by simp) (by simp) (by repeat' (first | exact trivial | exact .inl rfl | exact .inr rfl | exact .inr ⟨rfl, rfl, rfl, by simp; done⟩ | exact .inr ⟨rfl, by simp; done⟩ | exact .inr ⟨rfl, rfl, by simp; done⟩ | apply And.intro)) (by repeat' (first | exact trivial | rfl | exact (tkC_ren.1 _ _).symm | (simp; done) | apply And.intro)) (by first | exact .inl rfl | (refine .inr ⟨trivial, ?_⟩; first | (intro row h; rcases List.mem_singleton.1 h with rfl; exact nvB _) | (intro row h; cases h; done) | (simp; done)) | (refine .inr ⟨by simp [nvP, nvP.nvPs, nvD, nilS, errno], ?_⟩; first | (intro row h; rcases List.mem_singleton.1 h with rfl; exact nvB _) | (intro row h; cases h; done) | (simp [nvRow, nvD, nvP]; done))) ?_
    simp only [u64, cA, vA, nums1, int, bool, nilP, tkC_ren, am, simprocAttr, tys]
    exact ⟨⟨3, by omega, fun h => by omega⟩, [], [0, 1, 2, 3], ⟨rfl, rfl, by simp, (fun i hi => absurd hi (Nat.not_lt_zero _)), ⟨.inr rfl, .inr rfl, .inr rfl, .inr rfl, .inr rfl, .inr rfl, .inr rfl, trivial⟩, ⟨.inr ⟨by decide, rfl⟩, .inr ⟨by decide, rfl⟩, .inr ⟨by decide, tkC_row _ _ _ _⟩, .inr ⟨by decide, rfl⟩, trivial⟩, rfl, by decide, rfl, by simp [scRow, tkC_scs, scBs, scB]⟩, by show 14 - 3 < 14 - 2; omega⟩
  · simp only [cA, vA, nums1, int, bool, nilP, am, simprocAttr, tys]
    refine ACall.of (tkNum (tS r 3) (hBj 3)) [2] [] rfl (by simp) (by simp) (by simp) (by repeat' (first | exact trivial | exact .inl rfl | exact .inr rfl | exact .inr ⟨rfl, rfl, rfl, by simp; done⟩ | exact .inr ⟨rfl, by simp; done⟩ | exact .inr ⟨rfl, rfl, by simp; done⟩ | apply And.intro)) (by repeat' (first | exact trivial | rfl | exact (tkC_ren.1 _ _).symm | (simp; done) | apply And.intro)) (by first | exact .inl rfl | (refine .inr ⟨trivial, ?_⟩; first | (intro row h; rcases List.mem_singleton.1 h with rfl; exact nvB _) | (intro row h; cases h; done) | (simp; done)) | (refine .inr ⟨by simp [nvP, nvP.nvPs, nvD, nilS, errno], ?_⟩; first | (intro row h; rcases List.mem_singleton.1 h with rfl; exact nvB _) | (intro row h; cases h; done) | (simp [nvRow, nvD, nvP]; done))) ?_
    simp only [u64, cA, vA, nums1, int, bool, nilP, tkC_ren, am, simprocAttr, tys]
    exact ⟨⟨4, by omega, fun h => by omega⟩, [], [0, 1, 2, 3], ⟨rfl, rfl, by simp, (fun i hi => absurd hi (Nat.not_lt_zero _)), ⟨.inr rfl, .inr rfl, .inr rfl, .inr rfl, .inr rfl, .inr rfl, .inr rfl, trivial⟩, ⟨.inr ⟨by decide, rfl⟩, .inr ⟨by decide, rfl⟩, .inr ⟨by decide, tkC_row _ _ _ _⟩, .inr ⟨by decide, rfl⟩, trivial⟩, rfl, by decide, rfl, by simp [scRow, tkC_scs, scBs, scB]⟩, by show 14 - 4 < 14 - 3; omega⟩
  · simp only [cA, vA, nums1, int, bool, nilP, am, simprocAttr, tys]
    refine ACall.of (tkNum (tS r 4) (hBj 4)) [2] [] rfl (by simp) (by simp) (by simp) (by repeat' (first | exact trivial | exact .inl rfl | exact .inr rfl | exact .inr ⟨rfl, rfl, rfl, by simp; done⟩ | exact .inr ⟨rfl, by simp; done⟩ | exact .inr ⟨rfl, rfl, by simp; done⟩ | apply And.intro)) (by repeat' (first | exact trivial | rfl | exact (tkC_ren.1 _ _).symm | (simp; done) | apply And.intro)) (by first | exact .inl rfl | (refine .inr ⟨trivial, ?_⟩; first | (intro row h; rcases List.mem_singleton.1 h with rfl; exact nvB _) | (intro row h; cases h; done) | (simp; done)) | (refine .inr ⟨by simp [nvP, nvP.nvPs, nvD, nilS, errno], ?_⟩; first | (intro row h; rcases List.mem_singleton.1 h with rfl; exact nvB _) | (intro row h; cases h; done) | (simp [nvRow, nvD, nvP]; done))) ?_
    simp only [u64, cA, vA, nums1, int, bool, nilP, tkC_ren, am, simprocAttr, tys]
    exact ⟨⟨5, by omega, fun h => by omega⟩, [], [0, 1, 2, 3], ⟨rfl, rfl, by simp, (fun i hi => absurd hi (Nat.not_lt_zero _)), ⟨.inr rfl, .inr rfl, .inr rfl, .inr rfl, .inr rfl, .inr rfl, .inr rfl, trivial⟩, ⟨.inr ⟨by decide, rfl⟩, .inr ⟨by decide, rfl⟩, .inr ⟨by decide, tkC_row _ _ _ _⟩, .inr ⟨by decide, rfl⟩, trivial⟩, rfl, by decide, rfl, by simp [scRow, tkC_scs, scBs, scB]⟩, by show 14 - 5 < 14 - 4; omega⟩
  · simp only [cA, vA, nums1, int, bool, nilP, am, simprocAttr, tys]
    refine ACall.of (tkNum (tS r 5) (hBj 5)) [2] [] rfl (by simp) (by simp) (by simp) (by repeat' (first | exact trivial | exact .inl rfl | exact .inr rfl | exact .inr ⟨rfl, rfl, rfl, by simp; done⟩ | exact .inr ⟨rfl, by simp; done⟩ | exact .inr ⟨rfl, rfl, by simp; done⟩ | apply And.intro)) (by repeat' (first | exact trivial | rfl | exact (tkC_ren.1 _ _).symm | (simp; done) | apply And.intro)) (by first | exact .inl rfl | (refine .inr ⟨trivial, ?_⟩; first | (intro row h; rcases List.mem_singleton.1 h with rfl; exact nvB _) | (intro row h; cases h; done) | (simp; done)) | (refine .inr ⟨by simp [nvP, nvP.nvPs, nvD, nilS, errno], ?_⟩; first | (intro row h; rcases List.mem_singleton.1 h with rfl; exact nvB _) | (intro row h; cases h; done) | (simp [nvRow, nvD, nvP]; done))) ?_
    simp only [u64, cA, vA, nums1, int, bool, nilP, tkC_ren, am, simprocAttr, tys]
    exact ⟨⟨6, by omega, fun h => by omega⟩, [], [0, 1, 2, 3], ⟨rfl, rfl, by simp, (fun i hi => absurd hi (Nat.not_lt_zero _)), ⟨.inr rfl, .inr rfl, .inr rfl, .inr rfl, .inr rfl, .inr rfl, .inr rfl, trivial⟩, ⟨.inr ⟨by decide, rfl⟩, .inr ⟨by decide, rfl⟩, .inr ⟨by decide, tkC_row _ _ _ _⟩, .inr ⟨by decide, rfl⟩, trivial⟩, rfl, by decide, rfl, by simp [scRow, tkC_scs, scBs, scB]⟩, by show 14 - 6 < 14 - 5; omega⟩
  · rcases Nat.lt_or_ge 1 (uS r 6) with h1 | h1
    · have ht2 : takeB k r = none := by unfold takeB; rw [if_pos h1]
      have hI : ((1 : Int) < ((uS r 6 : Nat) : Int)) := by omega
      have hI' : ((1 : Int) < (((numT (tS r 6)).1 : Nat) : Int)) := hI
      rw [ht2]
      simp only [takeNW]
      simp only [cA, vA, nums1, int, bool, nilP, am, simprocAttr, tys]
      refine ACall.of (tkNum (tS r 6) (hBj 6)) [2] [] rfl (by simp) (by simp) (by simp) (by repeat' (first | exact trivial | exact .inl rfl | exact .inr rfl | exact .inr ⟨rfl, rfl, rfl, by simp; done⟩ | exact .inr ⟨rfl, by simp; done⟩ | exact .inr ⟨rfl, rfl, by simp; done⟩ | apply And.intro)) (by repeat' (first | exact trivial | rfl | exact (tkC_ren.1 _ _).symm | (simp; done) | apply And.intro)) (by first | exact .inl rfl | (refine .inr ⟨trivial, ?_⟩; first | (intro row h; rcases List.mem_singleton.1 h with rfl; exact nvB _) | (intro row h; cases h; done) | (simp; done)) | (refine .inr ⟨by simp [nvP, nvP.nvPs, nvD, nilS, errno], ?_⟩; first | (intro row h; rcases List.mem_singleton.1 h with rfl; exact nvB _) | (intro row h; cases h; done) | (simp [nvRow, nvD, nvP]; done))) ?_
      simp only [u64, hI', cA, vA, nums1, int, bool, nilP, tkC_ren, errno, FinR, evRes, evRVs, evRV, am, simprocAttr, tys]
      exact ⟨_, [], [], rfl, Ent.plain rfl rfl rfl trivial rfl, rfl, rfl⟩
    · have hI : ¬ ((1 : Int) < ((uS r 6 : Nat) : Int)) := by omega
      have hI' : ¬ ((1 : Int) < (((numT (tS r 6)).1 : Nat) : Int)) := hI
      have hq : ((((numT (tS r 6)).1 : Nat) : Int) == 1) = (uS r 6 == 1) := by
        show (((uS r 6 : Nat) : Int) == 1) = (uS r 6 == 1)
        rw [Bool.eq_iff_iff, beq_iff_eq, beq_iff_eq]; omega
      simp only [cA, vA, nums1, int, bool, nilP, am, simprocAttr, tys]
      refine ACall.of (tkNum (tS r 6) (hBj 6)) [2] [] rfl (by simp) (by simp) (by simp) (by repeat' (first | exact trivial | exact .inl rfl | exact .inr rfl | exact .inr ⟨rfl, rfl, rfl, by simp; done⟩ | exact .inr ⟨rfl, by simp; done⟩ | exact .inr ⟨rfl, rfl, by simp; done⟩ | apply And.intro)) (by repeat' (first | exact trivial | rfl | exact (tkC_ren.1 _ _).symm | (simp; done) | apply And.intro)) (by first | exact .inl rfl | (refine .inr ⟨trivial, ?_⟩; first | (intro row h; rcases List.mem_singleton.1 h with rfl; exact nvB _) | (intro row h; cases h; done) | (simp; done)) | (refine .inr ⟨by simp [nvP, nvP.nvPs, nvD, nilS, errno], ?_⟩; first | (intro row h; rcases List.mem_singleton.1 h with rfl; exact nvB _) | (intro row h; cases h; done) | (simp [nvRow, nvD, nvP]; done))) ?_
      simp only [u64, hI', hq, cA, vA, nums1, int, bool, nilP, tkC_ren, am, simprocAttr, tys]
      exact ⟨⟨7, by omega, fun _ => h1⟩, [], [0, 1, 2, 3], ⟨rfl, rfl, by simp, (fun i hi => absurd hi (Nat.not_lt_zero _)), ⟨.inr rfl, .inr rfl, .inr rfl, .inr rfl, .inr rfl, .inr rfl, .inr rfl, trivial⟩, ⟨.inr ⟨by decide, rfl⟩, .inr ⟨by decide, rfl⟩, .inr ⟨by decide, tkC_row _ _ _ _⟩, .inr ⟨by decide, rfl⟩, trivial⟩, rfl, by decide, rfl, by simp [scRow, tkC_scs, scBs, scB]⟩, by show 14 - 7 < 14 - 6; omega⟩
  · simp only [cA, vA, nums1, int, bool, nilP, am, simprocAttr, tys]
    refine ACall.of (tkNum (tS r 7) (hBj 7)) [2] [] rfl (by simp) (by simp) (by simp) (by repeat' (first | exact trivial | exact .inl rfl | exact .inr rfl | exact .inr ⟨rfl, rfl, rfl, by simp; done⟩ | exact .inr ⟨rfl, by simp; done⟩ | exact .inr ⟨rfl, rfl, by simp; done⟩ | apply And.intro)) (by repeat' (first | exact trivial | rfl | exact (tkC_ren.1 _ _).symm | (simp; done) | apply And.intro)) (by first | exact .inl rfl | (refine .inr ⟨trivial, ?_⟩; first | (intro row h; rcases List.mem_singleton.1 h with rfl; exact nvB _) | (intro row h; cases h; done) | (simp; done)) | (refine .inr ⟨by simp [nvP, nvP.nvPs, nvD, nilS, errno], ?_⟩; first | (intro row h; rcases List.mem_singleton.1 h with rfl; exact nvB _) | (intro row h; cases h; done) | (simp [nvRow, nvD, nvP]; done))) ?_
    simp only [u64, cA, vA, nums1, int, bool, nilP, tkC_ren, am, simprocAttr, tys]
    exact ⟨⟨8, by omega, fun _ => h6i (by omega)⟩, [], [0, 1, 2, 3], ⟨rfl, rfl, by simp, (fun i hi => absurd hi (Nat.not_lt_zero _)), ⟨.inr rfl, .inr rfl, .inr rfl, .inr rfl, .inr rfl, .inr rfl, .inr rfl, trivial⟩, ⟨.inr ⟨by decide, rfl⟩, .inr ⟨by decide, rfl⟩, .inr ⟨by decide, tkC_row _ _ _ _⟩, .inr ⟨by decide, rfl⟩, trivial⟩, rfl, by decide, rfl, by simp [scRow, tkC_scs, scBs, scB]⟩, by show 14 - 8 < 14 - 7; omega⟩
  · simp only [cA, vA, nums1, int, bool, nilP, am, simprocAttr, tys]
    refine ACall.of (tkNum (tS r 8) (hBj 8)) [2] [] rfl (by simp) (by simp) (by simp) (by repeat' (first | exact trivial | exact .inl rfl | exact .inr rfl | exact .inr ⟨rfl, rfl, rfl, by simp; done⟩ | exact .inr ⟨rfl, by simp; done⟩ | exact .inr ⟨rfl, rfl, by simp; done⟩ | apply And.intro)) (by repeat' (first | exact trivial | rfl | exact (tkC_ren.1 _ _).symm | (simp; done) | apply And.intro)) (by first | exact .inl rfl | (refine .inr ⟨trivial, ?_⟩; first | (intro row h; rcases List.mem_singleton.1 h with rfl; exact nvB _) | (intro row h; cases h; done) | (simp; done)) | (refine .inr ⟨by simp [nvP, nvP.nvPs, nvD, nilS, errno], ?_⟩; first | (intro row h; rcases List.mem_singleton.1 h with rfl; exact nvB _) | (intro row h; cases h; done) | (simp [nvRow, nvD, nvP]; done))) ?_
    simp only [u64, cA, vA, nums1, int, bool, nilP, tkC_ren, am, simprocAttr, tys]
    exact ⟨⟨9, by omega, fun _ => h6i (by omega)⟩, [], [0, 1, 2, 3], ⟨rfl, rfl, by simp, (fun i hi => absurd hi (Nat.not_lt_zero _)), ⟨.inr rfl, .inr rfl, .inr rfl, .inr rfl, .inr rfl, .inr rfl, .inr rfl, trivial⟩, ⟨.inr ⟨by decide, rfl⟩, .inr ⟨by decide, rfl⟩, .inr ⟨by decide, tkC_row _ _ _ _⟩, .inr ⟨by decide, rfl⟩, trivial⟩, rfl, by decide, rfl, by simp [scRow, tkC_scs, scBs, scB]⟩, by show 14 - 9 < 14 - 8; omega⟩
  · simp only [cA, vA, nums1, int, bool, nilP, am, simprocAttr, tys]
    refine ACall.of (tkNum (tS r 9) (hBj 9)) [2] [] rfl (by simp) (by simp) (by simp) (by repeat' (first | exact trivial | exact .inl rfl | exact .inr rfl | exact .inr ⟨rfl, rfl, rfl, by simp; done⟩ | exact .inr ⟨rfl, by simp; done⟩ | exact .inr ⟨rfl, rfl, by simp; done⟩ | apply And.intro)) (by repeat' (first | exact trivial | rfl | exact (tkC_ren.1 _ _).symm | (simp; done) | apply And.intro)) (by first | exact .inl rfl | (refine .inr ⟨trivial, ?_⟩; first | (intro row h; rcases List.mem_singleton.1 h with rfl; exact nvB _) | (intro row h; cases h; done) | (simp; done)) | (refine .inr ⟨by simp [nvP, nvP.nvPs, nvD, nilS, errno], ?_⟩; first | (intro row h; rcases List.mem_singleton.1 h with rfl; exact nvB _) | (intro row h; cases h; done) | (simp [nvRow, nvD, nvP]; done))) ?_
    simp only [u64, cA, vA, nums1, int, bool, nilP, tkC_ren, am, simprocAttr, tys]
    exact ⟨⟨10, by omega, fun _ => h6i (by omega)⟩, [], [0, 1, 2, 3], ⟨rfl, rfl, by simp, (fun i hi => absurd hi (Nat.not_lt_zero _)), ⟨.inr rfl, .inr rfl, .inr rfl, .inr rfl, .inr rfl, .inr rfl, .inr rfl, trivial⟩, ⟨.inr ⟨by decide, rfl⟩, .inr ⟨by decide, rfl⟩, .inr ⟨by decide, tkC_row _ _ _ _⟩, .inr ⟨by decide, rfl⟩, trivial⟩, rfl, by decide, rfl, by simp [scRow, tkC_scs, scBs, scB]⟩, by show 14 - 10 < 14 - 9; omega⟩
  · simp only [cA, vA, nums1, int, bool, nilP, am, simprocAttr, tys]
    refine ACall.of (tkNum (tS r 10) (hBj 10)) [2] [] rfl (by simp) (by simp) (by simp) (by repeat' (first | exact trivial | exact .inl rfl | exact .inr rfl | exact .inr ⟨rfl, rfl, rfl, by simp; done⟩ | exact .inr ⟨rfl, by simp; done⟩ | exact .inr ⟨rfl, rfl, by simp; done⟩ | apply And.intro)) (by repeat' (first | exact trivial | rfl | exact (tkC_ren.1 _ _).symm | (simp; done) | apply And.intro)) (by first | exact .inl rfl | (refine .inr ⟨trivial, ?_⟩; first | (intro row h; rcases List.mem_singleton.1 h with rfl; exact nvB _) | (intro row h; cases h; done) | (simp; done)) | (refine .inr ⟨by simp [nvP, nvP.nvPs, nvD, nilS, errno], ?_⟩; first | (intro row h; rcases List.mem_singleton.1 h with rfl; exact nvB _) | (intro row h; cases h; done) | (simp [nvRow, nvD, nvP]; done))) ?_
    simp only [u64, cA, vA, nums1, int, bool, nilP, tkC_ren, am, simprocAttr, tys]
    exact ⟨⟨11, by omega, fun _ => h6i (by omega)⟩, [], [0, 1, 2, 3], ⟨rfl, rfl, by simp, (fun i hi => absurd hi (Nat.not_lt_zero _)), ⟨.inr rfl, .inr rfl, .inr rfl, .inr rfl, .inr rfl, .inr rfl, .inr rfl, trivial⟩, ⟨.inr ⟨by decide, rfl⟩, .inr ⟨by decide, rfl⟩, .inr ⟨by decide, tkC_row _ _ _ _⟩, .inr ⟨by decide, rfl⟩, trivial⟩, rfl, by decide, rfl, by simp [scRow, tkC_scs, scBs, scB]⟩, by show 14 - 11 < 14 - 10; omega⟩
  · simp only [cA, vA, nums1, int, bool, nilP, am, simprocAttr, tys]
    refine ACall.of (tkNum (tS r 11) (hBj 11)) [2] [] rfl (by simp) (by simp) (by simp) (by repeat' (first | exact trivial | exact .inl rfl | exact .inr rfl | exact .inr ⟨rfl, rfl, rfl, by simp; done⟩ | exact .inr ⟨rfl, by simp; done⟩ | exact .inr ⟨rfl, rfl, by simp; done⟩ | apply And.intro)) (by repeat' (first | exact trivial | rfl | exact (tkC_ren.1 _ _).symm | (simp; done) | apply And.intro)) (by first | exact .inl rfl | (refine .inr ⟨trivial, ?_⟩; first | (intro row h; rcases List.mem_singleton.1 h with rfl; exact nvB _) | (intro row h; cases h; done) | (simp; done)) | (refine .inr ⟨by simp [nvP, nvP.nvPs, nvD, nilS, errno], ?_⟩; first | (intro row h; rcases List.mem_singleton.1 h with rfl; exact nvB _) | (intro row h; cases h; done) | (simp [nvRow, nvD, nvP]; done))) ?_
    simp only [u64, cA, vA, nums1, int, bool, nilP, tkC_ren, am, simprocAttr, tys]
    exact ⟨⟨12, by omega, fun _ => h6i (by omega)⟩, [], [0, 1, 2, 3], ⟨rfl, rfl, by simp, (fun i hi => absurd hi (Nat.not_lt_zero _)), ⟨.inr rfl, .inr rfl, .inr rfl, .inr rfl, .inr rfl, .inr rfl, .inr rfl, trivial⟩, ⟨.inr ⟨by decide, rfl⟩, .inr ⟨by decide, rfl⟩, .inr ⟨by decide, tkC_row _ _ _ _⟩, .inr ⟨by decide, rfl⟩, trivial⟩, rfl, by decide, rfl, by simp [scRow, tkC_scs, scBs, scB]⟩, by show 14 - 12 < 14 - 11; omega⟩
  · simp only [cA, vA, nums1, int, bool, nilP, am, simprocAttr, tys]
    refine ACall.of (tkNum (tS r 12) (hBj 12)) [2] [] rfl (by simp) (by simp) (by simp) (by repeat' (first | exact trivial | exact .inl rfl | exact .inr rfl | exact .inr ⟨rfl, rfl, rfl, by simp; done⟩ | exact .inr ⟨rfl, by simp; done⟩ | exact .inr ⟨rfl, rfl, by simp; done⟩ | apply And.intro)) (by repeat' (first | exact trivial | rfl | exact (tkC_ren.1 _ _).symm | (simp; done) | apply And.intro)) (by first | exact .inl rfl | (refine .inr ⟨trivial, ?_⟩; first | (intro row h; rcases List.mem_singleton.1 h with rfl; exact nvB _) | (intro row h; cases h; done) | (simp; done)) | (refine .inr ⟨by simp [nvP, nvP.nvPs, nvD, nilS, errno], ?_⟩; first | (intro row h; rcases List.mem_singleton.1 h with rfl; exact nvB _) | (intro row h; cases h; done) | (simp [nvRow, nvD, nvP]; done))) ?_
    simp only [u64, cA, vA, nums1, int, bool, nilP, tkC_ren, am, simprocAttr, tys]
    exact ⟨⟨13, by omega, fun _ => h6i (by omega)⟩, [], [0, 1, 2, 3], ⟨rfl, rfl, by simp, (fun i hi => absurd hi (Nat.not_lt_zero _)), ⟨.inr rfl, .inr rfl, .inr rfl, .inr rfl, .inr rfl, .inr rfl, .inr rfl, trivial⟩, ⟨.inr ⟨by decide, rfl⟩, .inr ⟨by decide, rfl⟩, .inr ⟨by decide, tkC_row _ _ _ _⟩, .inr ⟨by decide, rfl⟩, trivial⟩, rfl, by decide, rfl, by simp [scRow, tkC_scs, scBs, scB]⟩, by show 14 - 13 < 14 - 12; omega⟩
  · simp only [cA, vA, nums1, int, bool, nilP, am, simprocAttr, tys]
    refine ACall.of (tkNum (tS r 13) (hBj 13)) [2] [] rfl (by simp) (by simp) (by simp) (by repeat' (first | exact trivial | exact .inl rfl | exact .inr rfl | exact .inr ⟨rfl, rfl, rfl, by simp; done⟩ | exact .inr ⟨rfl, by simp; done⟩ | exact .inr ⟨rfl, rfl, by simp; done⟩ | apply And.intro)) (by repeat' (first | exact trivial | rfl | exact (tkC_ren.1 _ _).symm | (simp; done) | apply And.intro)) (by first | exact .inl rfl | (refine .inr ⟨trivial, ?_⟩; first | (intro row h; rcases List.mem_singleton.1 h with rfl; exact nvB _) | (intro row h; cases h; done) | (simp; done)) | (refine .inr ⟨by simp [nvP, nvP.nvPs, nvD, nilS, errno], ?_⟩; first | (intro row h; rcases List.mem_singleton.1 h with rfl; exact nvB _) | (intro row h; cases h; done) | (simp [nvRow, nvD, nvP]; done))) ?_
    simp only [u64, cA, vA, nums1, int, bool, nilP, tkC_ren, am, simprocAttr, tys]
    exact ⟨⟨14, by omega, fun _ => h6i (by omega)⟩, [], [0, 1, 2, 3], ⟨rfl, rfl, by simp, (fun i hi => absurd hi (Nat.not_lt_zero _)), ⟨.inr rfl, .inr rfl, .inr rfl, .inr rfl, .inr rfl, .inr rfl, .inr rfl, trivial⟩, ⟨.inr ⟨by decide, rfl⟩, .inr ⟨by decide, rfl⟩, .inr ⟨by decide, tkC_row _ _ _ _⟩, .inr ⟨by decide, rfl⟩, trivial⟩, rfl, by decide, rfl, by simp [scRow, tkC_scs, scBs, scB]⟩, by show 14 - 14 < 14 - 13; omega⟩
  have h6 : ¬ (1 < uS r 6) := by have := h6i (by omega); omega
  have eU : (numT (tS r 14)).1 = uS r 14 := rfl
  have eT : (numT (tS r 14)).2 = tS r 15 := rfl
  simp only [cA, vA, nums1, int, bool, nilP, am, simprocAttr, tys]
  refine ACall.of (tkNum (tS r 14) (hBj 14)) [2] [] rfl (by simp) (by simp) (by simp) (by repeat' (first | exact trivial | exact .inl rfl | exact .inr rfl | exact .inr ⟨rfl, rfl, rfl, by simp; done⟩ | exact .inr ⟨rfl, by simp; done⟩ | exact .inr ⟨rfl, rfl, by simp; done⟩ | apply And.intro)) (by repeat' (first | exact trivial | rfl | exact (tkC_ren.1 _ _).symm | (simp; done) | apply And.intro)) (by first | exact .inl rfl | (refine .inr ⟨trivial, ?_⟩; first | (intro row h; rcases List.mem_singleton.1 h with rfl; exact nvB _) | (intro row h; cases h; done) | (simp; done)) | (refine .inr ⟨by simp [nvP, nvP.nvPs, nvD, nilS, errno], ?_⟩; first | (intro row h; rcases List.mem_singleton.1 h with rfl; exact nvB _) | (intro row h; cases h; done) | (simp [nvRow, nvD, nvP]; done))) ?_
  rcases Nat.lt_or_ge 300 (uS r 14) with h3 | h3
  · have ht2 : takeB k r = none := by unfold takeB; rw [if_neg h6, if_pos h3]
    have hI : ((300 : Int) < ((uS r 14 : Nat) : Int)) := by omega
    rw [ht2]
    simp only [takeNW]
    simp only [u64, eU, eT, hI, tkC_ren, errno, FinR, evRes, evRVs, evRV, am, simprocAttr, tys]
    exact ⟨_, [], [], rfl, Ent.plain rfl rfl rfl trivial rfl, rfl, rfl⟩
  have hI3 : ¬ ((300 : Int) < ((uS r 14 : Nat) : Int)) := by omega
  have hB15 := hB 15
  rcases h15 : tS r 15 with _ | q
  · have ht2 : takeB k r = none := by unfold takeB; rw [if_neg h6, if_neg (Nat.not_lt.2 h3), h15]
    rw [ht2]
    simp only [takeNW]
    simp only [u64, eU, eT, hI3, h15, tkC_ren, am, simprocAttr, tys]
    refine ACall.of (tkLeft none) [2] [] rfl (by simp) (by simp) (by simp) (by repeat' (first | exact trivial | exact .inl rfl | exact .inr rfl | exact .inr ⟨rfl, rfl, rfl, by simp; done⟩ | exact .inr ⟨rfl, by simp; done⟩ | exact .inr ⟨rfl, rfl, by simp; done⟩ | apply And.intro)) (by repeat' (first | exact trivial | rfl | exact (tkC_ren.1 _ _).symm | (simp; done) | apply And.intro)) (by first | exact .inl rfl | (refine .inr ⟨trivial, ?_⟩; first | (intro row h; rcases List.mem_singleton.1 h with rfl; exact nvB _) | (intro row h; cases h; done) | (simp; done)) | (refine .inr ⟨by simp [nvP, nvP.nvPs, nvD, nilS, errno], ?_⟩; first | (intro row h; rcases List.mem_singleton.1 h with rfl; exact nvB _) | (intro row h; cases h; done) | (simp [nvRow, nvD, nvP]; done))) ?_
    simp only [leftT, int, tkC_ren, am, simprocAttr, tys]
    refine ACall.of (tkEnd none) [2] [] rfl (by simp) (by simp) (by simp) (by repeat' (first | exact trivial | exact .inl rfl | exact .inr rfl | exact .inr ⟨rfl, rfl, rfl, by simp; done⟩ | exact .inr ⟨rfl, by simp; done⟩ | exact .inr ⟨rfl, rfl, by simp; done⟩ | apply And.intro)) (by repeat' (first | exact trivial | rfl | exact (tkC_ren.1 _ _).symm | (simp; done) | apply And.intro)) (by first | exact .inl rfl | (refine .inr ⟨trivial, ?_⟩; first | (intro row h; rcases List.mem_singleton.1 h with rfl; exact nvB _) | (intro row h; cases h; done) | (simp; done)) | (refine .inr ⟨by simp [nvP, nvP.nvPs, nvD, nilS, errno], ?_⟩; first | (intro row h; rcases List.mem_singleton.1 h with rfl; exact nvB _) | (intro row h; cases h; done) | (simp [nvRow, nvD, nvP]; done))) ?_
    simp only [endT, errno, tkC_ren, FinR, evRes, evRVs, evRV, am, simprocAttr, tys]
    exact ⟨_, [], [], rfl, Ent.plain rfl rfl rfl trivial rfl, rfl, rfl⟩
  have hq := hsuf q h15
  have hql : q.length ≤ r.length := hB15 q h15
  have hTB : takeB k r = match decN takeE (uS r 14) q with
      | some (l, []) => if rightN (mkN k r l) = true then some (mkN k r l) else none
      | _ => none := by unfold takeB; rw [if_neg h6, if_neg (Nat.not_lt.2 h3), h15]; rfl
  have w1 : IntKind.i64.wrap (((xx.length : Nat) : Int) - ((q.length : Nat) : Int)) = ((xx.length - q.length : Nat) : Int) := by rw [IntWalk.i64_in _ (by omega)]; omega
  have hs1 : ((0 : Int) ≤ ((xx.length - q.length : Nat) : Int)) := by omega
  have hs2 : (((xx.length - q.length : Nat) : Int) ≤ ((xx.length : Nat) : Int)) := by omega
  simp only [u64, eU, eT, hI3, h15, tkC_ren, am, simprocAttr, tys]
  refine ACall.of (tkLeft (some q)) [2] [] rfl (by simp) (by simp) (by simp) (by repeat' (first | exact trivial | exact .inl rfl | exact .inr rfl | exact .inr ⟨rfl, rfl, rfl, by simp; done⟩ | exact .inr ⟨rfl, by simp; done⟩ | exact .inr ⟨rfl, rfl, by simp; done⟩ | apply And.intro)) (by repeat' (first | exact trivial | rfl | exact (tkC_ren.1 _ _).symm | (simp; done) | apply And.intro)) (by first | exact .inl rfl | (refine .inr ⟨trivial, ?_⟩; first | (intro row h; rcases List.mem_singleton.1 h with rfl; exact nvB _) | (intro row h; cases h; done) | (simp; done)) | (refine .inr ⟨by simp [nvP, nvP.nvPs, nvD, nilS, errno], ?_⟩; first | (intro row h; rcases List.mem_singleton.1 h with rfl; exact nvB _) | (intro row h; cases h; done) | (simp [nvRow, nvD, nvP]; done))) ?_
  have cE := noteEntries q (uS r 14) (by omega) (by omega)
  by_cases hq0 : q.length = 0
  · have hL : (((q.length : Nat) : Int) == 0) = true := by rw [beq_iff_eq]; omega
    have hN : endT (some q) = 0 := by rw [List.length_eq_zero_iff.1 hq0]; rfl
    simp only [leftT, int, hL, tkC_ren, am, simprocAttr, tys]
    refine ACall.of (tkEnd (some q)) [2] [] rfl (by simp) (by simp) (by simp) (by repeat' (first | exact trivial | exact .inl rfl | exact .inr rfl | exact .inr ⟨rfl, rfl, rfl, by simp; done⟩ | exact .inr ⟨rfl, by simp; done⟩ | exact .inr ⟨rfl, rfl, by simp; done⟩ | apply And.intro)) (by repeat' (first | exact trivial | rfl | exact (tkC_ren.1 _ _).symm | (simp; done) | apply And.intro)) (by first | exact .inl rfl | (refine .inr ⟨trivial, ?_⟩; first | (intro row h; rcases List.mem_singleton.1 h with rfl; exact nvB _) | (intro row h; cases h; done) | (simp; done)) | (refine .inr ⟨by simp [nvP, nvP.nvPs, nvD, nilS, errno], ?_⟩; first | (intro row h; rcases List.mem_singleton.1 h with rfl; exact nvB _) | (intro row h; cases h; done) | (simp [nvRow, nvD, nvP]; done))) ?_
    simp only [hN, byts, int, errno, List.length_map, tkC_ren, am, simprocAttr, tys]
    refine ACall.of (tkLeft (some q)) [2] [] rfl (by simp) (by simp) (by simp) (by repeat' (first | exact trivial | exact .inl rfl | exact .inr rfl | exact .inr ⟨rfl, rfl, rfl, by simp; done⟩ | exact .inr ⟨rfl, by simp; done⟩ | exact .inr ⟨rfl, rfl, by simp; done⟩ | apply And.intro)) (by repeat' (first | exact trivial | rfl | exact (tkC_ren.1 _ _).symm | (simp; done) | apply And.intro)) (by first | exact .inl rfl | (refine .inr ⟨trivial, ?_⟩; first | (intro row h; rcases List.mem_singleton.1 h with rfl; exact nvB _) | (intro row h; cases h; done) | (simp; done)) | (refine .inr ⟨by simp [nvP, nvP.nvPs, nvD, nilS, errno], ?_⟩; first | (intro row h; rcases List.mem_singleton.1 h with rfl; exact nvB _) | (intro row h; cases h; done) | (simp [nvRow, nvD, nvP]; done))) ?_
    simp only [leftT, int, byts, w1, hs1, hs2, hq, List.length_map, ← List.map_take, List.take_length, ← List.map_drop, Int.toNat_natCast, tkC_ren, am, simprocAttr, tys]
    refine ⟨Int.le_refl _, ?_⟩
    have hdk := decE_some (uS r 14) q
    rcases hde : decN takeE (uS r 14) q with _ | ⟨l, r'⟩
    · rw [hde] at cE hTB
      simp only at hTB
      rw [hTB]
      simp only [takeNW]
      simp only [entR, u64, nilS, bool] at cE
      refine ACall.of (cE) [] [] rfl (by simp) (by simp) (by simp) (by repeat' (first | exact trivial | exact .inl rfl | exact .inr rfl | exact .inr ⟨rfl, rfl, rfl, by simp; done⟩ | exact .inr ⟨rfl, by simp; done⟩ | exact .inr ⟨rfl, rfl, by simp; done⟩ | apply And.intro)) (by repeat' (first | exact trivial | rfl | exact (tkC_ren.1 _ _).symm | (simp; done) | apply And.intro)) (by first | exact .inl rfl | (refine .inr ⟨trivial, ?_⟩; first | (intro row h; rcases List.mem_singleton.1 h with rfl; exact nvB _) | (intro row h; cases h; done) | (simp; done)) | (refine .inr ⟨by simp [nvP, nvP.nvPs, nvD, nilS, errno], ?_⟩; first | (intro row h; rcases List.mem_singleton.1 h with rfl; exact nvB _) | (intro row h; cases h; done) | (simp [nvRow, nvD, nvP]; done))) ?_
      simp only [nilS, bool, errno, FinR, evRes, evRVs, evRV, am, simprocAttr, tys]
      exact ⟨_, [], [], rfl, Ent.plain rfl rfl rfl trivial rfl, rfl, rfl⟩
    obtain ⟨d1, d2, d3, d4⟩ := hdk l r' hde
    rcases r' with _ | ⟨c', r'⟩
    case' cons =>
      rw [hde] at cE hTB
      simp only at hTB
      rw [hTB]
      simp only [takeNW]
      have hne : decide ((c' :: r' : List UInt8) = []) = false := decide_eq_false (by simp)
      simp only [entR, u64, nilS, bool, hne] at cE
      refine ACall.of (cE) [] [] rfl (by simp) (by simp) (by simp) (by repeat' (first | exact trivial | exact .inl rfl | exact .inr rfl | exact .inr ⟨rfl, rfl, rfl, by simp; done⟩ | exact .inr ⟨rfl, by simp; done⟩ | exact .inr ⟨rfl, rfl, by simp; done⟩ | apply And.intro)) (by repeat' (first | exact trivial | rfl | exact (tkC_ren.1 _ _).symm | (simp; done) | apply And.intro)) (by first | exact .inl rfl | (refine .inr ⟨trivial, ?_⟩; first | (intro row h; rcases List.mem_singleton.1 h with rfl; exact nvB _) | (intro row h; cases h; done) | (simp; done)) | (refine .inr ⟨by simp [nvP, nvP.nvPs, nvD, nilS, errno], ?_⟩; first | (intro row h; rcases List.mem_singleton.1 h with rfl; exact nvB _) | (intro row h; cases h; done) | (simp [nvRow, nvD, nvP]; done))) ?_
      simp only [nilS, bool, errno, FinR, evRes, evRVs, evRV, am, simprocAttr, tys]
      exact ⟨_, [], [], rfl, Ent.plain rfl rfl rfl trivial rfl, rfl, rfl⟩
    rw [hde] at cE hTB
    simp only at hTB
    have cR := noteRight (mkN k r l) (mkN_fit k r (by omega) d3)
    simp only [entR, u64, nilS, bool, decide_true] at cE
    rcases hr : rightN (mkN k r l) with _ | _
    · rw [hr] at cR hTB
      rw [if_neg (by simp)] at hTB
      rw [hTB]
      simp only [takeNW]
      simp only [encN, mkN] at cR
      refine ACall.of (cE) [] [] rfl (by simp) (by simp) (by simp) (by repeat' (first | exact trivial | exact .inl rfl | exact .inr rfl | exact .inr ⟨rfl, rfl, rfl, by simp; done⟩ | exact .inr ⟨rfl, by simp; done⟩ | exact .inr ⟨rfl, rfl, by simp; done⟩ | apply And.intro)) (by repeat' (first | exact trivial | rfl | exact (tkC_ren.1 _ _).symm | (simp; done) | apply And.intro)) (by first | exact .inl rfl | (refine .inr ⟨trivial, ?_⟩; first | (intro row h; rcases List.mem_singleton.1 h with rfl; exact nvB _) | (intro row h; cases h; done) | (simp; done)) | (refine .inr ⟨by simp [nvP, nvP.nvPs, nvD, nilS, errno], ?_⟩; first | (intro row h; rcases List.mem_singleton.1 h with rfl; exact nvB _) | (intro row h; cases h; done) | (simp [nvRow, nvD, nvP]; done))) ?_
      simp only [nilS, bool, errno, am, simprocAttr, tys]
      refine ACall.of (cR) [] [] rfl (by simp) (by simp) (by simp) (by repeat' (first | exact trivial | exact .inl rfl | exact .inr rfl | exact .inr ⟨rfl, rfl, rfl, by simp; done⟩ | exact .inr ⟨rfl, by simp; done⟩ | exact .inr ⟨rfl, rfl, by simp; done⟩ | apply And.intro)) (by repeat' (first | exact trivial | rfl | exact (tkC_ren.1 _ _).symm | (simp; done) | apply And.intro)) (by first | exact .inl rfl | (refine .inr ⟨trivial, ?_⟩; first | (intro row h; rcases List.mem_singleton.1 h with rfl; exact nvB _) | (intro row h; cases h; done) | (simp; done)) | (refine .inr ⟨by simp [nvP, nvP.nvPs, nvD, nilS, errno], ?_⟩; first | (intro row h; rcases List.mem_singleton.1 h with rfl; exact nvB _) | (intro row h; cases h; done) | (simp [nvRow, nvD, nvP]; done))) ?_
      simp only [nilS, bool, errno, FinR, evRes, evRVs, evRV, am, simprocAttr, tys]
      exact ⟨_, [], [], rfl, Ent.plain rfl rfl rfl trivial rfl, rfl, rfl⟩
    · rw [hr] at cR hTB
      rw [if_pos rfl] at hTB
      rw [hTB]
      simp only [takeNW]
      simp only [encN, mkN] at cR
      refine ACall.of (cE) [] [] rfl (by simp) (by simp) (by simp) (by repeat' (first | exact trivial | exact .inl rfl | exact .inr rfl | exact .inr ⟨rfl, rfl, rfl, by simp; done⟩ | exact .inr ⟨rfl, by simp; done⟩ | exact .inr ⟨rfl, rfl, by simp; done⟩ | apply And.intro)) (by repeat' (first | exact trivial | rfl | exact (tkC_ren.1 _ _).symm | (simp; done) | apply And.intro)) (by first | exact .inl rfl | (refine .inr ⟨trivial, ?_⟩; first | (intro row h; rcases List.mem_singleton.1 h with rfl; exact nvB _) | (intro row h; cases h; done) | (simp; done)) | (refine .inr ⟨by simp [nvP, nvP.nvPs, nvD, nilS, errno], ?_⟩; first | (intro row h; rcases List.mem_singleton.1 h with rfl; exact nvB _) | (intro row h; cases h; done) | (simp [nvRow, nvD, nvP]; done))) ?_
      simp only [nilS, bool, errno, am, simprocAttr, tys]
      refine ACall.of (cR) [] [] rfl (by simp) (by simp) (by simp) (by repeat' (first | exact trivial | exact .inl rfl | exact .inr rfl | exact .inr ⟨rfl, rfl, rfl, by simp; done⟩ | exact .inr ⟨rfl, by simp; done⟩ | exact .inr ⟨rfl, rfl, by simp; done⟩ | apply And.intro)) (by repeat' (first | exact trivial | rfl | exact (tkC_ren.1 _ _).symm | (simp; done) | apply And.intro)) (by first | exact .inl rfl | (refine .inr ⟨trivial, ?_⟩; first | (intro row h; rcases List.mem_singleton.1 h with rfl; exact nvB _) | (intro row h; cases h; done) | (simp; done)) | (refine .inr ⟨by simp [nvP, nvP.nvPs, nvD, nilS, errno], ?_⟩; first | (intro row h; rcases List.mem_singleton.1 h with rfl; exact nvB _) | (intro row h; cases h; done) | (simp [nvRow, nvD, nvP]; done))) ?_
      simp only [nilS, bool, errno, encN, mkN, FinR, evRes, evRVs, evRV, am, simprocAttr, tys]
      exact ⟨_, [], [], rfl, Ent.plain rfl rfl rfl trivial rfl, rfl, rfl⟩
  · have hL : (((q.length : Nat) : Int) == 0) = false := by rw [beq_eq_false_iff_ne]; omega
    simp only [leftT, int, byts, hL, List.length_map, tkC_ren, am, simprocAttr, tys]
    refine ACall.of (tkLeft (some q)) [2] [] rfl (by simp) (by simp) (by simp) (by repeat' (first | exact trivial | exact .inl rfl | exact .inr rfl | exact .inr ⟨rfl, rfl, rfl, by simp; done⟩ | exact .inr ⟨rfl, by simp; done⟩ | exact .inr ⟨rfl, rfl, by simp; done⟩ | apply And.intro)) (by repeat' (first | exact trivial | rfl | exact (tkC_ren.1 _ _).symm | (simp; done) | apply And.intro)) (by first | exact .inl rfl | (refine .inr ⟨trivial, ?_⟩; first | (intro row h; rcases List.mem_singleton.1 h with rfl; exact nvB _) | (intro row h; cases h; done) | (simp; done)) | (refine .inr ⟨by simp [nvP, nvP.nvPs, nvD, nilS, errno], ?_⟩; first | (intro row h; rcases List.mem_singleton.1 h with rfl; exact nvB _) | (intro row h; cases h; done) | (simp [nvRow, nvD, nvP]; done))) ?_
    simp only [leftT, int, byts, w1, hs1, hs2, hq, List.length_map, ← List.map_take, List.take_length, ← List.map_drop, Int.toNat_natCast, tkC_ren, am, simprocAttr, tys]
    refine ⟨Int.le_refl _, ?_⟩
    have hdk := decE_some (uS r 14) q
    rcases hde : decN takeE (uS r 14) q with _ | ⟨l, r'⟩
    · rw [hde] at cE hTB
      simp only at hTB
      rw [hTB]
      simp only [takeNW]
      simp only [entR, u64, nilS, bool] at cE
      refine ACall.of (cE) [] [] rfl (by simp) (by simp) (by simp) (by repeat' (first | exact trivial | exact .inl rfl | exact .inr rfl | exact .inr ⟨rfl, rfl, rfl, by simp; done⟩ | exact .inr ⟨rfl, by simp; done⟩ | exact .inr ⟨rfl, rfl, by simp; done⟩ | apply And.intro)) (by repeat' (first | exact trivial | rfl | exact (tkC_ren.1 _ _).symm | (simp; done) | apply And.intro)) (by first | exact .inl rfl | (refine .inr ⟨trivial, ?_⟩; first | (intro row h; rcases List.mem_singleton.1 h with rfl; exact nvB _) | (intro row h; cases h; done) | (simp; done)) | (refine .inr ⟨by simp [nvP, nvP.nvPs, nvD, nilS, errno], ?_⟩; first | (intro row h; rcases List.mem_singleton.1 h with rfl; exact nvB _) | (intro row h; cases h; done) | (simp [nvRow, nvD, nvP]; done))) ?_
      simp only [nilS, bool, errno, FinR, evRes, evRVs, evRV, am, simprocAttr, tys]
      exact ⟨_, [], [], rfl, Ent.plain rfl rfl rfl trivial rfl, rfl, rfl⟩
    obtain ⟨d1, d2, d3, d4⟩ := hdk l r' hde
    rcases r' with _ | ⟨c', r'⟩
    case' cons =>
      rw [hde] at cE hTB
      simp only at hTB
      rw [hTB]
      simp only [takeNW]
      have hne : decide ((c' :: r' : List UInt8) = []) = false := decide_eq_false (by simp)
      simp only [entR, u64, nilS, bool, hne] at cE
      refine ACall.of (cE) [] [] rfl (by simp) (by simp) (by simp) (by repeat' (first | exact trivial | exact .inl rfl | exact .inr rfl | exact .inr ⟨rfl, rfl, rfl, by simp; done⟩ | exact .inr ⟨rfl, by simp; done⟩ | exact .inr ⟨rfl, rfl, by simp; done⟩ | apply And.intro)) (by repeat' (first | exact trivial | rfl | exact (tkC_ren.1 _ _).symm | (simp; done) | apply And.intro)) (by first | exact .inl rfl | (refine .inr ⟨trivial, ?_⟩; first | (intro row h; rcases List.mem_singleton.1 h with rfl; exact nvB _) | (intro row h; cases h; done) | (simp; done)) | (refine .inr ⟨by simp [nvP, nvP.nvPs, nvD, nilS, errno], ?_⟩; first | (intro row h; rcases List.mem_singleton.1 h with rfl; exact nvB _) | (intro row h; cases h; done) | (simp [nvRow, nvD, nvP]; done))) ?_
      simp only [nilS, bool, errno, FinR, evRes, evRVs, evRV, am, simprocAttr, tys]
      exact ⟨_, [], [], rfl, Ent.plain rfl rfl rfl trivial rfl, rfl, rfl⟩
    rw [hde] at cE hTB
    simp only at hTB
    have cR := noteRight (mkN k r l) (mkN_fit k r (by omega) d3)
    simp only [entR, u64, nilS, bool, decide_true] at cE
    rcases hr : rightN (mkN k r l) with _ | _
    · rw [hr] at cR hTB
      rw [if_neg (by simp)] at hTB
      rw [hTB]
      simp only [takeNW]
      simp only [encN, mkN] at cR
      refine ACall.of (cE) [] [] rfl (by simp) (by simp) (by simp) (by repeat' (first | exact trivial | exact .inl rfl | exact .inr rfl | exact .inr ⟨rfl, rfl, rfl, by simp; done⟩ | exact .inr ⟨rfl, by simp; done⟩ | exact .inr ⟨rfl, rfl, by simp; done⟩ | apply And.intro)) (by repeat' (first | exact trivial | rfl | exact (tkC_ren.1 _ _).symm | (simp; done) | apply And.intro)) (by first | exact .inl rfl | (refine .inr ⟨trivial, ?_⟩; first | (intro row h; rcases List.mem_singleton.1 h with rfl; exact nvB _) | (intro row h; cases h; done) | (simp; done)) | (refine .inr ⟨by simp [nvP, nvP.nvPs, nvD, nilS, errno], ?_⟩; first | (intro row h; rcases List.mem_singleton.1 h with rfl; exact nvB _) | (intro row h; cases h; done) | (simp [nvRow, nvD, nvP]; done))) ?_
      simp only [nilS, bool, errno, am, simprocAttr, tys]
      refine ACall.of (cR) [] [] rfl (by simp) (by simp) (by simp) (by repeat' (first | exact trivial | exact .inl rfl | exact .inr rfl | exact .inr ⟨rfl, rfl, rfl, by simp; done⟩ | exact .inr ⟨rfl, by simp; done⟩ | exact .inr ⟨rfl, rfl, by simp; done⟩ | apply And.intro)) (by repeat' (first | exact trivial | rfl | exact (tkC_ren.1 _ _).symm | (simp; done) | apply And.intro)) (by first | exact .inl rfl | (refine .inr ⟨trivial, ?_⟩; first | (intro row h; rcases List.mem_singleton.1 h with rfl; exact nvB _) | (intro row h; cases h; done) | (simp; done)) | (refine .inr ⟨by simp [nvP, nvP.nvPs, nvD, nilS, errno], ?_⟩; first | (intro row h; rcases List.mem_singleton.1 h with rfl; exact nvB _) | (intro row h; cases h; done) | (simp [nvRow, nvD, nvP]; done))) ?_
      simp only [nilS, bool, errno, FinR, evRes, evRVs, evRV, am, simprocAttr, tys]
      exact ⟨_, [], [], rfl, Ent.plain rfl rfl rfl trivial rfl, rfl, rfl⟩
    · rw [hr] at cR hTB
      rw [if_pos rfl] at hTB
      rw [hTB]
      simp only [takeNW]
      simp only [encN, mkN] at cR
      refine ACall.of (cE) [] [] rfl (by simp) (by simp) (by simp) (by repeat' (first | exact trivial | exact .inl rfl | exact .inr rfl | exact .inr ⟨rfl, rfl, rfl, by simp; done⟩ | exact .inr ⟨rfl, by simp; done⟩ | exact .inr ⟨rfl, rfl, by simp; done⟩ | apply And.intro)) (by repeat' (first | exact trivial | rfl | exact (tkC_ren.1 _ _).symm | (simp; done) | apply And.intro)) (by first | exact .inl rfl | (refine .inr ⟨trivial, ?_⟩; first | (intro row h; rcases List.mem_singleton.1 h with rfl; exact nvB _) | (intro row h; cases h; done) | (simp; done)) | (refine .inr ⟨by simp [nvP, nvP.nvPs, nvD, nilS, errno], ?_⟩; first | (intro row h; rcases List.mem_singleton.1 h with rfl; exact nvB _) | (intro row h; cases h; done) | (simp [nvRow, nvD, nvP]; done))) ?_
      simp only [nilS, bool, errno, am, simprocAttr, tys]
      refine ACall.of (cR) [] [] rfl (by simp) (by simp) (by simp) (by repeat' (first | exact trivial | exact .inl rfl | exact .inr rfl | exact .inr ⟨rfl, rfl, rfl, by simp; done⟩ | exact .inr ⟨rfl, by simp; done⟩ | exact .inr ⟨rfl, rfl, by simp; done⟩ | apply And.intro)) (by repeat' (first | exact trivial | rfl | exact (tkC_ren.1 _ _).symm | (simp; done) | apply And.intro)) (by first | exact .inl rfl | (refine .inr ⟨trivial, ?_⟩; first | (intro row h; rcases List.mem_singleton.1 h with rfl; exact nvB _) | (intro row h; cases h; done) | (simp; done)) | (refine .inr ⟨by simp [nvP, nvP.nvPs, nvD, nilS, errno], ?_⟩; first | (intro row h; rcases List.mem_singleton.1 h with rfl; exact nvB _) | (intro row h; cases h; done) | (simp [nvRow, nvD, nvP]; done))) ?_
      simp only [nilS, bool, errno, encN, mkN, FinR, evRes, evRVs, evRV, am, simprocAttr, tys]
      exact ⟨_, [], [], rfl, Ent.plain rfl rfl rfl trivial rfl, rfl, rfl⟩

theorem noteTake (b : List UInt8) (hb : b.length ≤ 10000000) : AFun Try.prog 19 [byts b] [] (takeNR (takeN b)) [] := by
  have h := noteTakeW b hb
  rcases hq : takeN b with _ | x
  · rw [hq] at h; exact failN_ok h
  · rw [hq] at h; exact h
theorem noteTakeF (b : List UInt8) (hb : b.length ≤ 10000000) (hn : takeN b = none) : AFun Try.prog 19 [byts b] [] failNP [] := by
  have h := noteTakeW b hb
  rwa [hn] at h
end Go.Proofs.Ytflpphgccjlkjaa

set_option linter.unusedSimpArgs false
set_option linter.unusedVariables false
namespace Go.Proofs.Ytflpphgccjlkjaa
open Go Go.AM

theorem refNPutN (x : NT) (h : FitN x) (hr : rightN x = false) : AFun Try.prog 14 [.d (.agg (encN x))] [] (.tup [nilS, errno 1]) [] := by
  refine AFun.of_walk hP Try.func14 rfl rfl rfl (by simp) rfl ?_
  have c := refNRight x h
  rw [hr] at c
  simp only [encN] at c
  simp only [Try.f14, encN, am, simprocAttr, tys]
  refine ACall.of (c) [] [] rfl (by simp) (by simp) (by simp) (by repeat' (first | exact trivial | exact .inl rfl | exact .inr rfl | exact .inr ⟨rfl, rfl, rfl, by simp; done⟩ | exact .inr ⟨rfl, by simp; done⟩ | exact .inr ⟨rfl, rfl, by simp; done⟩ | apply And.intro)) (by repeat' (first | exact trivial | rfl | exact (tkC_ren.1 _ _).symm | (simp; done) | apply And.intro)) (by first | exact .inl rfl | (refine .inr ⟨trivial, ?_⟩; first | (intro row h; rcases List.mem_singleton.1 h with rfl; exact nvB _) | (intro row h; cases h; done) | (simp; done)) | (refine .inr ⟨by simp [nvP, nvP.nvPs, nvD, nilS, errno], ?_⟩; first | (intro row h; rcases List.mem_singleton.1 h with rfl; exact nvB _) | (intro row h; cases h; done) | (simp [nvRow, nvD, nvP]; done))) ?_
  simp only [bool, nilS, errno, FinR, evRes, evRVs, evRV, am, simprocAttr, tys]
  exact ⟨_, [], [], rfl, Ent.plain rfl rfl rfl trivial rfl, rfl, rfl⟩

set_option maxRecDepth 8000 in
set_option maxHeartbeats 4000000 in
theorem refNPut (x : NT) (h : FitN x) (hr : rightN x = true) : AFun Try.prog 14 [.d (.agg (encN x))] [] (.tup [.own 0, errno 0]) [.own 1 ((sealed (bodyN x)).map encB)] := by
  refine AFun.of_walk hP Try.func14 rfl rfl rfl (by simp) rfl ?_
  have c := refNRight x h
  have R := rightN_of hr
  rw [hr] at c
  simp only [encN] at c
  have hbl := headB_len R
  have v0 : IntKind.i64.wrap 1 = 1 := by decide
  have v1 : IntKind.i64.wrap 2 = 2 := by decide
  have v2 : IntKind.i64.wrap 3 = 3 := by decide
  have v3 : IntKind.i64.wrap 4 = 4 := by decide
  have v4 : IntKind.i64.wrap 5 = 5 := by decide
  have v5 : IntKind.i64.wrap 6 = 6 := by decide
  have v6 : IntKind.i64.wrap 7 = 7 := by decide
  simp only [Try.f14, encN, am, simprocAttr, tys]
  refine ACall.of (c) [] [] rfl (by simp) (by simp) (by simp) (by repeat' (first | exact trivial | exact .inl rfl | exact .inr rfl | exact .inr ⟨rfl, rfl, rfl, by simp; done⟩ | exact .inr ⟨rfl, by simp; done⟩ | exact .inr ⟨rfl, rfl, by simp; done⟩ | apply And.intro)) (by repeat' (first | exact trivial | rfl | exact (tkC_ren.1 _ _).symm | (simp; done) | apply And.intro)) (by first | exact .inl rfl | (refine .inr ⟨trivial, ?_⟩; first | (intro row h; rcases List.mem_singleton.1 h with rfl; exact nvB _) | (intro row h; cases h; done) | (simp; done)) | (refine .inr ⟨by simp [nvP, nvP.nvPs, nvD, nilS, errno], ?_⟩; first | (intro row h; rcases List.mem_singleton.1 h with rfl; exact nvB _) | (intro row h; cases h; done) | (simp [nvRow, nvD, nvP]; done))) ?_
  simp only [bool, am, simprocAttr, tys]
  refine ALoopW.intro 107 0 (ι := { i : Nat // i ≤ 6 }) (fun i => [(1, .ptr 0 0), (4, .own 1), (5, .own 2), (6, int i.1)]) (fun i => [.box ((encN x).map .d), .own 1 ((headB x i.1).map encB), .own 1 ([x.f, x.t, x.v, x.n, x.i, x.s].map encZ)]) (fun i => 6 - i.1) ⟨0, by omega⟩ [] [0, 1, 2] ?_ (fun ⟨i, hi⟩ => ?_)
  · exact ⟨rfl, rfl, by simp, (fun i hi => absurd hi (Nat.not_lt_zero _)), ⟨.inr rfl, .inr rfl, .inr rfl, .inr rfl, trivial⟩, ⟨.inr ⟨by decide, rfl⟩, .inr ⟨by decide, rfl⟩, .inr ⟨by decide, rfl⟩, trivial⟩, rfl, by decide, rfl, (by first | rfl | simp [scRow, tkC_scs])⟩
  simp only
  rcases (by omega : i = 0 ∨ i = 1 ∨ i = 2 ∨ i = 3 ∨ i = 4 ∨ i = 5 ∨ i = 6) with rfl | rfl | rfl | rfl | rfl | rfl | rfl
  · have hb := headB_succ x 0 _ rfl
    simp only [int, encN, encZ, Int.cast_ofNat_Int, List.map_cons, List.map_nil, (w64 x.f ⟨R.f.1, by have := R.f.2; omega⟩), am, simprocAttr, tys]
    refine ACall.of (refPut (headB x 0) x.f.toNat (by have := hbl 0; omega) (by have := R.f.2; omega)) [] [1] rfl (by simp) (by simp) (by simp) (by repeat' (first | exact trivial | exact .inl rfl | exact .inr rfl | exact .inr ⟨rfl, rfl, rfl, by simp; done⟩ | exact .inr ⟨rfl, by simp; done⟩ | exact .inr ⟨rfl, rfl, by simp; done⟩ | apply And.intro)) (by repeat' (first | exact trivial | rfl | exact (tkC_ren.1 _ _).symm | (simp; done) | apply And.intro)) (by first | exact .inl rfl | (refine .inr ⟨trivial, ?_⟩; first | (intro row h; rcases List.mem_singleton.1 h with rfl; exact nvB _) | (intro row h; cases h; done) | (simp; done)) | (refine .inr ⟨by simp [nvP, nvP.nvPs, nvD, nilS, errno], ?_⟩; first | (intro row h; rcases List.mem_singleton.1 h with rfl; exact nvB _) | (intro row h; cases h; done) | (simp [nvRow, nvD, nvP]; done))) ?_
    simp only [hb, v0, am, simprocAttr, tys]
    exact ⟨⟨1, by omega⟩, [], [0, 3, 2], ⟨rfl, rfl, by simp, (fun i hi => absurd hi (Nat.not_lt_zero _)), ⟨.inr rfl, .inr rfl, .inr rfl, .inr rfl, trivial⟩, ⟨.inr ⟨by decide, rfl⟩, .inr ⟨by decide, rfl⟩, .inr ⟨by decide, rfl⟩, trivial⟩, rfl, by decide, rfl, (by first | rfl | simp [scRow, tkC_scs])⟩, by show 6 - 1 < 6 - 0; decide⟩
  · have hb := headB_succ x 1 _ rfl
    simp only [int, encN, encZ, Int.cast_ofNat_Int, List.map_cons, List.map_nil, (w64 x.t ⟨R.t.1, by have := R.t.2; omega⟩), am, simprocAttr, tys]
    refine ACall.of (refPut (headB x 1) x.t.toNat (by have := hbl 1; omega) (by have := R.t.2; omega)) [] [1] rfl (by simp) (by simp) (by simp) (by repeat' (first | exact trivial | exact .inl rfl | exact .inr rfl | exact .inr ⟨rfl, rfl, rfl, by simp; done⟩ | exact .inr ⟨rfl, by simp; done⟩ | exact .inr ⟨rfl, rfl, by simp; done⟩ | apply And.intro)) (by repeat' (first | exact trivial | rfl | exact (tkC_ren.1 _ _).symm | (simp; done) | apply And.intro)) (by first | exact .inl rfl | (refine .inr ⟨trivial, ?_⟩; first | (intro row h; rcases List.mem_singleton.1 h with rfl; exact nvB _) | (intro row h; cases h; done) | (simp; done)) | (refine .inr ⟨by simp [nvP, nvP.nvPs, nvD, nilS, errno], ?_⟩; first | (intro row h; rcases List.mem_singleton.1 h with rfl; exact nvB _) | (intro row h; cases h; done) | (simp [nvRow, nvD, nvP]; done))) ?_
    simp only [hb, v1, am, simprocAttr, tys]
    exact ⟨⟨2, by omega⟩, [], [0, 3, 2], ⟨rfl, rfl, by simp, (fun i hi => absurd hi (Nat.not_lt_zero _)), ⟨.inr rfl, .inr rfl, .inr rfl, .inr rfl, trivial⟩, ⟨.inr ⟨by decide, rfl⟩, .inr ⟨by decide, rfl⟩, .inr ⟨by decide, rfl⟩, trivial⟩, rfl, by decide, rfl, (by first | rfl | simp [scRow, tkC_scs])⟩, by show 6 - 2 < 6 - 1; decide⟩
  · have hb := headB_succ x 2 _ rfl
    simp only [int, encN, encZ, Int.cast_ofNat_Int, List.map_cons, List.map_nil, (w64 x.v ⟨R.v.1, by have := R.v.2; omega⟩), am, simprocAttr, tys]
    refine ACall.of (refPut (headB x 2) x.v.toNat (by have := hbl 2; omega) (by have := R.v.2; omega)) [] [1] rfl (by simp) (by simp) (by simp) (by repeat' (first | exact trivial | exact .inl rfl | exact .inr rfl | exact .inr ⟨rfl, rfl, rfl, by simp; done⟩ | exact .inr ⟨rfl, by simp; done⟩ | exact .inr ⟨rfl, rfl, by simp; done⟩ | apply And.intro)) (by repeat' (first | exact trivial | rfl | exact (tkC_ren.1 _ _).symm | (simp; done) | apply And.intro)) (by first | exact .inl rfl | (refine .inr ⟨trivial, ?_⟩; first | (intro row h; rcases List.mem_singleton.1 h with rfl; exact nvB _) | (intro row h; cases h; done) | (simp; done)) | (refine .inr ⟨by simp [nvP, nvP.nvPs, nvD, nilS, errno], ?_⟩; first | (intro row h; rcases List.mem_singleton.1 h with rfl; exact nvB _) | (intro row h; cases h; done) | (simp [nvRow, nvD, nvP]; done))) ?_
    simp only [hb, v2, am, simprocAttr, tys]
    exact ⟨⟨3, by omega⟩, [], [0, 3, 2], ⟨rfl, rfl, by simp, (fun i hi => absurd hi (Nat.not_lt_zero _)), ⟨.inr rfl, .inr rfl, .inr rfl, .inr rfl, trivial⟩, ⟨.inr ⟨by decide, rfl⟩, .inr ⟨by decide, rfl⟩, .inr ⟨by decide, rfl⟩, trivial⟩, rfl, by decide, rfl, (by first | rfl | simp [scRow, tkC_scs])⟩, by show 6 - 3 < 6 - 2; decide⟩
  · have hb := headB_succ x 3 _ rfl
    simp only [int, encN, encZ, Int.cast_ofNat_Int, List.map_cons, List.map_nil, (w64 x.n ⟨R.n.1, by have := R.n.2; omega⟩), am, simprocAttr, tys]
    refine ACall.of (refPut (headB x 3) x.n.toNat (by have := hbl 3; omega) (by have := R.n.2; omega)) [] [1] rfl (by simp) (by simp) (by simp) (by repeat' (first | exact trivial | exact .inl rfl | exact .inr rfl | exact .inr ⟨rfl, rfl, rfl, by simp; done⟩ | exact .inr ⟨rfl, by simp; done⟩ | exact .inr ⟨rfl, rfl, by simp; done⟩ | apply And.intro)) (by repeat' (first | exact trivial | rfl | exact (tkC_ren.1 _ _).symm | (simp; done) | apply And.intro)) (by first | exact .inl rfl | (refine .inr ⟨trivial, ?_⟩; first | (intro row h; rcases List.mem_singleton.1 h with rfl; exact nvB _) | (intro row h; cases h; done) | (simp; done)) | (refine .inr ⟨by simp [nvP, nvP.nvPs, nvD, nilS, errno], ?_⟩; first | (intro row h; rcases List.mem_singleton.1 h with rfl; exact nvB _) | (intro row h; cases h; done) | (simp [nvRow, nvD, nvP]; done))) ?_
    simp only [hb, v3, am, simprocAttr, tys]
    exact ⟨⟨4, by omega⟩, [], [0, 3, 2], ⟨rfl, rfl, by simp, (fun i hi => absurd hi (Nat.not_lt_zero _)), ⟨.inr rfl, .inr rfl, .inr rfl, .inr rfl, trivial⟩, ⟨.inr ⟨by decide, rfl⟩, .inr ⟨by decide, rfl⟩, .inr ⟨by decide, rfl⟩, trivial⟩, rfl, by decide, rfl, (by first | rfl | simp [scRow, tkC_scs])⟩, by show 6 - 4 < 6 - 3; decide⟩
  · have hb := headB_succ x 4 _ rfl
    simp only [int, encN, encZ, Int.cast_ofNat_Int, List.map_cons, List.map_nil, (w64 x.i ⟨R.i.1, by have := R.i.2; omega⟩), am, simprocAttr, tys]
    refine ACall.of (refPut (headB x 4) x.i.toNat (by have := hbl 4; omega) (by have := R.i.2; omega)) [] [1] rfl (by simp) (by simp) (by simp) (by repeat' (first | exact trivial | exact .inl rfl | exact .inr rfl | exact .inr ⟨rfl, rfl, rfl, by simp; done⟩ | exact .inr ⟨rfl, by simp; done⟩ | exact .inr ⟨rfl, rfl, by simp; done⟩ | apply And.intro)) (by repeat' (first | exact trivial | rfl | exact (tkC_ren.1 _ _).symm | (simp; done) | apply And.intro)) (by first | exact .inl rfl | (refine .inr ⟨trivial, ?_⟩; first | (intro row h; rcases List.mem_singleton.1 h with rfl; exact nvB _) | (intro row h; cases h; done) | (simp; done)) | (refine .inr ⟨by simp [nvP, nvP.nvPs, nvD, nilS, errno], ?_⟩; first | (intro row h; rcases List.mem_singleton.1 h with rfl; exact nvB _) | (intro row h; cases h; done) | (simp [nvRow, nvD, nvP]; done))) ?_
    simp only [hb, v4, am, simprocAttr, tys]
    exact ⟨⟨5, by omega⟩, [], [0, 3, 2], ⟨rfl, rfl, by simp, (fun i hi => absurd hi (Nat.not_lt_zero _)), ⟨.inr rfl, .inr rfl, .inr rfl, .inr rfl, trivial⟩, ⟨.inr ⟨by decide, rfl⟩, .inr ⟨by decide, rfl⟩, .inr ⟨by decide, rfl⟩, trivial⟩, rfl, by decide, rfl, (by first | rfl | simp [scRow, tkC_scs])⟩, by show 6 - 5 < 6 - 4; decide⟩
  · have hb := headB_succ x 5 _ rfl
    simp only [int, encN, encZ, Int.cast_ofNat_Int, List.map_cons, List.map_nil, (w64 x.s ⟨R.s.1, by have := R.s.2; omega⟩), am, simprocAttr, tys]
    refine ACall.of (refPut (headB x 5) x.s.toNat (by have := hbl 5; omega) (by have := R.s.2; omega)) [] [1] rfl (by simp) (by simp) (by simp) (by repeat' (first | exact trivial | exact .inl rfl | exact .inr rfl | exact .inr ⟨rfl, rfl, rfl, by simp; done⟩ | exact .inr ⟨rfl, by simp; done⟩ | exact .inr ⟨rfl, rfl, by simp; done⟩ | apply And.intro)) (by repeat' (first | exact trivial | rfl | exact (tkC_ren.1 _ _).symm | (simp; done) | apply And.intro)) (by first | exact .inl rfl | (refine .inr ⟨trivial, ?_⟩; first | (intro row h; rcases List.mem_singleton.1 h with rfl; exact nvB _) | (intro row h; cases h; done) | (simp; done)) | (refine .inr ⟨by simp [nvP, nvP.nvPs, nvD, nilS, errno], ?_⟩; first | (intro row h; rcases List.mem_singleton.1 h with rfl; exact nvB _) | (intro row h; cases h; done) | (simp [nvRow, nvD, nvP]; done))) ?_
    simp only [hb, v5, am, simprocAttr, tys]
    exact ⟨⟨6, by omega⟩, [], [0, 3, 2], ⟨rfl, rfl, by simp, (fun i hi => absurd hi (Nat.not_lt_zero _)), ⟨.inr rfl, .inr rfl, .inr rfl, .inr rfl, trivial⟩, ⟨.inr ⟨by decide, rfl⟩, .inr ⟨by decide, rfl⟩, .inr ⟨by decide, rfl⟩, trivial⟩, rfl, by decide, rfl, (by first | rfl | simp [scRow, tkC_scs])⟩, by show 6 - 6 < 6 - 5; decide⟩
  · have hb := headB_succ x 6 _ rfl
    have h6 := hbl 6
    rcases hld : x.ld with _ | _
    case' false =>
      rw [hld] at hb
      have eb : (headB x 6).map encB ++ [[DV.lit (.int .u8 0)]] = (headB x 7).map encB := by rw [← hb, List.map_append]; rfl
      simp only [int, encN, encZ, hld, Int.cast_ofNat_Int, List.map_cons, List.map_nil, eb, List.length_map, am, simprocAttr, tys]
      refine ⟨by omega, ?_⟩
    case' true =>
      rw [hld] at hb
      have eb : (headB x 6).map encB ++ [[DV.lit (.int .u8 1)]] = (headB x 7).map encB := by rw [← hb, List.map_append]; rfl
      simp only [int, encN, encZ, hld, Int.cast_ofNat_Int, List.map_cons, List.map_nil, eb, List.length_map, am, simprocAttr, tys]
      refine ⟨by omega, ?_⟩
    all_goals
      refine ALoopW.intro 107 0 (ι := { i : Nat // i ≤ 7 }) (fun i => [(1, .ptr 0 0), (4, .own 1), (7, int i.1)]) (fun i => [.box ((encN x).map .d), .own 1 ((headB x (7 + i.1)).map encB)]) (fun i => 7 - i.1) ⟨0, by omega⟩ [] [0, 4] ?_ (fun ⟨i, hi⟩ => ?_)
      · refine ⟨rfl, rfl, by simp, (fun i hi => absurd hi (Nat.not_lt_zero _)), ⟨.inr rfl, .inr rfl, .inr rfl, trivial⟩, ⟨.inr ⟨by decide, ?_⟩, .inr ⟨by decide, ?_⟩, trivial⟩, rfl, by decide, rfl, (by first | rfl | simp [scRow, tkC_scs])⟩
        · simp only [encN, hld]; rfl
        · rfl
      simp only
      rcases (by omega : i = 0 ∨ i = 1 ∨ i = 2 ∨ i = 3 ∨ i = 4 ∨ i = 5 ∨ i = 6 ∨ i = 7) with rfl | rfl | rfl | rfl | rfl | rfl | rfl | rfl
      · have hb := headB_succ x 7 _ rfl
        simp only [int, encN, Int.cast_ofNat_Int, List.map_cons, List.map_nil, (w64 x.l0 ⟨R.l0.1, by have := R.l0.2; omega⟩), am, simprocAttr, tys]
        refine ACall.of (refPut (headB x 7) x.l0.toNat (by have := hbl 7; omega) (by have := R.l0.2; omega)) [] [1] rfl (by simp) (by simp) (by simp) (by repeat' (first | exact trivial | exact .inl rfl | exact .inr rfl | exact .inr ⟨rfl, rfl, rfl, by simp; done⟩ | exact .inr ⟨rfl, by simp; done⟩ | exact .inr ⟨rfl, rfl, by simp; done⟩ | apply And.intro)) (by repeat' (first | exact trivial | rfl | exact (tkC_ren.1 _ _).symm | (simp; done) | apply And.intro)) (by first | exact .inl rfl | (refine .inr ⟨trivial, ?_⟩; first | (intro row h; rcases List.mem_singleton.1 h with rfl; exact nvB _) | (intro row h; cases h; done) | (simp; done)) | (refine .inr ⟨by simp [nvP, nvP.nvPs, nvD, nilS, errno], ?_⟩; first | (intro row h; rcases List.mem_singleton.1 h with rfl; exact nvB _) | (intro row h; cases h; done) | (simp [nvRow, nvD, nvP]; done))) ?_
        simp only [hb, v0, am, simprocAttr, tys]
        exact ⟨⟨1, by omega⟩, [], [0, 2], ⟨rfl, rfl, by simp, (fun i hi => absurd hi (Nat.not_lt_zero _)), ⟨.inr rfl, .inr rfl, .inr rfl, trivial⟩, ⟨.inr ⟨by decide, rfl⟩, .inr ⟨by decide, rfl⟩, trivial⟩, rfl, by decide, rfl, (by first | rfl | simp [scRow, tkC_scs])⟩, by show 7 - 1 < 7 - 0; decide⟩
      · have hb := headB_succ x 8 _ rfl
        simp only [int, encN, Int.cast_ofNat_Int, List.map_cons, List.map_nil, (w64 x.l1 ⟨R.l1.1, by have := R.l1.2; omega⟩), am, simprocAttr, tys]
        refine ACall.of (refPut (headB x 8) x.l1.toNat (by have := hbl 8; omega) (by have := R.l1.2; omega)) [] [1] rfl (by simp) (by simp) (by simp) (by repeat' (first | exact trivial | exact .inl rfl | exact .inr rfl | exact .inr ⟨rfl, rfl, rfl, by simp; done⟩ | exact .inr ⟨rfl, by simp; done⟩ | exact .inr ⟨rfl, rfl, by simp; done⟩ | apply And.intro)) (by repeat' (first | exact trivial | rfl | exact (tkC_ren.1 _ _).symm | (simp; done) | apply And.intro)) (by first | exact .inl rfl | (refine .inr ⟨trivial, ?_⟩; first | (intro row h; rcases List.mem_singleton.1 h with rfl; exact nvB _) | (intro row h; cases h; done) | (simp; done)) | (refine .inr ⟨by simp [nvP, nvP.nvPs, nvD, nilS, errno], ?_⟩; first | (intro row h; rcases List.mem_singleton.1 h with rfl; exact nvB _) | (intro row h; cases h; done) | (simp [nvRow, nvD, nvP]; done))) ?_
        simp only [hb, v1, am, simprocAttr, tys]
        exact ⟨⟨2, by omega⟩, [], [0, 2], ⟨rfl, rfl, by simp, (fun i hi => absurd hi (Nat.not_lt_zero _)), ⟨.inr rfl, .inr rfl, .inr rfl, trivial⟩, ⟨.inr ⟨by decide, rfl⟩, .inr ⟨by decide, rfl⟩, trivial⟩, rfl, by decide, rfl, (by first | rfl | simp [scRow, tkC_scs])⟩, by show 7 - 2 < 7 - 1; decide⟩
      · have hb := headB_succ x 9 _ rfl
        simp only [int, encN, Int.cast_ofNat_Int, List.map_cons, List.map_nil, (w64 x.l2 ⟨R.l2.1, by have := R.l2.2; omega⟩), am, simprocAttr, tys]
        refine ACall.of (refPut (headB x 9) x.l2.toNat (by have := hbl 9; omega) (by have := R.l2.2; omega)) [] [1] rfl (by simp) (by simp) (by simp) (by repeat' (first | exact trivial | exact .inl rfl | exact .inr rfl | exact .inr ⟨rfl, rfl, rfl, by simp; done⟩ | exact .inr ⟨rfl, by simp; done⟩ | exact .inr ⟨rfl, rfl, by simp; done⟩ | apply And.intro)) (by repeat' (first | exact trivial | rfl | exact (tkC_ren.1 _ _).symm | (simp; done) | apply And.intro)) (by first | exact .inl rfl | (refine .inr ⟨trivial, ?_⟩; first | (intro row h; rcases List.mem_singleton.1 h with rfl; exact nvB _) | (intro row h; cases h; done) | (simp; done)) | (refine .inr ⟨by simp [nvP, nvP.nvPs, nvD, nilS, errno], ?_⟩; first | (intro row h; rcases List.mem_singleton.1 h with rfl; exact nvB _) | (intro row h; cases h; done) | (simp [nvRow, nvD, nvP]; done))) ?_
        simp only [hb, v2, am, simprocAttr, tys]
        exact ⟨⟨3, by omega⟩, [], [0, 2], ⟨rfl, rfl, by simp, (fun i hi => absurd hi (Nat.not_lt_zero _)), ⟨.inr rfl, .inr rfl, .inr rfl, trivial⟩, ⟨.inr ⟨by decide, rfl⟩, .inr ⟨by decide, rfl⟩, trivial⟩, rfl, by decide, rfl, (by first | rfl | simp [scRow, tkC_scs])⟩, by show 7 - 3 < 7 - 2; decide⟩
      · have hb := headB_succ x 10 _ rfl
        simp only [int, encN, Int.cast_ofNat_Int, List.map_cons, List.map_nil, (w64 x.l3 ⟨R.l3.1, by have := R.l3.2; omega⟩), am, simprocAttr, tys]
        refine ACall.of (refPut (headB x 10) x.l3.toNat (by have := hbl 10; omega) (by have := R.l3.2; omega)) [] [1] rfl (by simp) (by simp) (by simp) (by repeat' (first | exact trivial | exact .inl rfl | exact .inr rfl | exact .inr ⟨rfl, rfl, rfl, by simp; done⟩ | exact .inr ⟨rfl, by simp; done⟩ | exact .inr ⟨rfl, rfl, by simp; done⟩ | apply And.intro)) (by repeat' (first | exact trivial | rfl | exact (tkC_ren.1 _ _).symm | (simp; done) | apply And.intro)) (by first | exact .inl rfl | (refine .inr ⟨trivial, ?_⟩; first | (intro row h; rcases List.mem_singleton.1 h with rfl; exact nvB _) | (intro row h; cases h; done) | (simp; done)) | (refine .inr ⟨by simp [nvP, nvP.nvPs, nvD, nilS, errno], ?_⟩; first | (intro row h; rcases List.mem_singleton.1 h with rfl; exact nvB _) | (intro row h; cases h; done) | (simp [nvRow, nvD, nvP]; done))) ?_
        simp only [hb, v3, am, simprocAttr, tys]
        exact ⟨⟨4, by omega⟩, [], [0, 2], ⟨rfl, rfl, by simp, (fun i hi => absurd hi (Nat.not_lt_zero _)), ⟨.inr rfl, .inr rfl, .inr rfl, trivial⟩, ⟨.inr ⟨by decide, rfl⟩, .inr ⟨by decide, rfl⟩, trivial⟩, rfl, by decide, rfl, (by first | rfl | simp [scRow, tkC_scs])⟩, by show 7 - 4 < 7 - 3; decide⟩
      · have hb := headB_succ x 11 _ rfl
        simp only [int, encN, Int.cast_ofNat_Int, List.map_cons, List.map_nil, (w64 x.l4 ⟨R.l4.1, by have := R.l4.2; omega⟩), am, simprocAttr, tys]
        refine ACall.of (refPut (headB x 11) x.l4.toNat (by have := hbl 11; omega) (by have := R.l4.2; omega)) [] [1] rfl (by simp) (by simp) (by simp) (by repeat' (first | exact trivial | exact .inl rfl | exact .inr rfl | exact .inr ⟨rfl, rfl, rfl, by simp; done⟩ | exact .inr ⟨rfl, by simp; done⟩ | exact .inr ⟨rfl, rfl, by simp; done⟩ | apply And.intro)) (by repeat' (first | exact trivial | rfl | exact (tkC_ren.1 _ _).symm | (simp; done) | apply And.intro)) (by first | exact .inl rfl | (refine .inr ⟨trivial, ?_⟩; first | (intro row h; rcases List.mem_singleton.1 h with rfl; exact nvB _) | (intro row h; cases h; done) | (simp; done)) | (refine .inr ⟨by simp [nvP, nvP.nvPs, nvD, nilS, errno], ?_⟩; first | (intro row h; rcases List.mem_singleton.1 h with rfl; exact nvB _) | (intro row h; cases h; done) | (simp [nvRow, nvD, nvP]; done))) ?_
        simp only [hb, v4, am, simprocAttr, tys]
        exact ⟨⟨5, by omega⟩, [], [0, 2], ⟨rfl, rfl, by simp, (fun i hi => absurd hi (Nat.not_lt_zero _)), ⟨.inr rfl, .inr rfl, .inr rfl, trivial⟩, ⟨.inr ⟨by decide, rfl⟩, .inr ⟨by decide, rfl⟩, trivial⟩, rfl, by decide, rfl, (by first | rfl | simp [scRow, tkC_scs])⟩, by show 7 - 5 < 7 - 4; decide⟩
      · have hb := headB_succ x 12 _ rfl
        simp only [int, encN, Int.cast_ofNat_Int, List.map_cons, List.map_nil, (w64 x.l5 ⟨R.l5.1, by have := R.l5.2; omega⟩), am, simprocAttr, tys]
        refine ACall.of (refPut (headB x 12) x.l5.toNat (by have := hbl 12; omega) (by have := R.l5.2; omega)) [] [1] rfl (by simp) (by simp) (by simp) (by repeat' (first | exact trivial | exact .inl rfl | exact .inr rfl | exact .inr ⟨rfl, rfl, rfl, by simp; done⟩ | exact .inr ⟨rfl, by simp; done⟩ | exact .inr ⟨rfl, rfl, by simp; done⟩ | apply And.intro)) (by repeat' (first | exact trivial | rfl | exact (tkC_ren.1 _ _).symm | (simp; done) | apply And.intro)) (by first | exact .inl rfl | (refine .inr ⟨trivial, ?_⟩; first | (intro row h; rcases List.mem_singleton.1 h with rfl; exact nvB _) | (intro row h; cases h; done) | (simp; done)) | (refine .inr ⟨by simp [nvP, nvP.nvPs, nvD, nilS, errno], ?_⟩; first | (intro row h; rcases List.mem_singleton.1 h with rfl; exact nvB _) | (intro row h; cases h; done) | (simp [nvRow, nvD, nvP]; done))) ?_
        simp only [hb, v5, am, simprocAttr, tys]
        exact ⟨⟨6, by omega⟩, [], [0, 2], ⟨rfl, rfl, by simp, (fun i hi => absurd hi (Nat.not_lt_zero _)), ⟨.inr rfl, .inr rfl, .inr rfl, trivial⟩, ⟨.inr ⟨by decide, rfl⟩, .inr ⟨by decide, rfl⟩, trivial⟩, rfl, by decide, rfl, (by first | rfl | simp [scRow, tkC_scs])⟩, by show 7 - 6 < 7 - 5; decide⟩
      · have hb := headB_succ x 13 _ rfl
        simp only [int, encN, Int.cast_ofNat_Int, List.map_cons, List.map_nil, (w64 x.l6 ⟨R.l6.1, by have := R.l6.2; omega⟩), am, simprocAttr, tys]
        refine ACall.of (refPut (headB x 13) x.l6.toNat (by have := hbl 13; omega) (by have := R.l6.2; omega)) [] [1] rfl (by simp) (by simp) (by simp) (by repeat' (first | exact trivial | exact .inl rfl | exact .inr rfl | exact .inr ⟨rfl, rfl, rfl, by simp; done⟩ | exact .inr ⟨rfl, by simp; done⟩ | exact .inr ⟨rfl, rfl, by simp; done⟩ | apply And.intro)) (by repeat' (first | exact trivial | rfl | exact (tkC_ren.1 _ _).symm | (simp; done) | apply And.intro)) (by first | exact .inl rfl | (refine .inr ⟨trivial, ?_⟩; first | (intro row h; rcases List.mem_singleton.1 h with rfl; exact nvB _) | (intro row h; cases h; done) | (simp; done)) | (refine .inr ⟨by simp [nvP, nvP.nvPs, nvD, nilS, errno], ?_⟩; first | (intro row h; rcases List.mem_singleton.1 h with rfl; exact nvB _) | (intro row h; cases h; done) | (simp [nvRow, nvD, nvP]; done))) ?_
        simp only [hb, v6, am, simprocAttr, tys]
        exact ⟨⟨7, by omega⟩, [], [0, 2], ⟨rfl, rfl, by simp, (fun i hi => absurd hi (Nat.not_lt_zero _)), ⟨.inr rfl, .inr rfl, .inr rfl, trivial⟩, ⟨.inr ⟨by decide, rfl⟩, .inr ⟨by decide, rfl⟩, trivial⟩, rfl, by decide, rfl, (by first | rfl | simp [scRow, tkC_scs])⟩, by show 7 - 7 < 7 - 6; decide⟩
      · have w : IntKind.u64.wrap (x.log.length : Int) = ((x.log.length : Nat) : Int) := IntWalk.u64_in _ (by have := R.ll; omega)
        simp only [int, encN, Int.cast_ofNat_Int, List.map_cons, List.map_nil, List.length_map, w, am, simprocAttr, tys]
        refine ACall.of (refPut (headB x 14) x.log.length (by have := hbl 14; omega) (by have := R.ll; omega)) [] [1] rfl (by simp) (by simp) (by simp) (by repeat' (first | exact trivial | exact .inl rfl | exact .inr rfl | exact .inr ⟨rfl, rfl, rfl, by simp; done⟩ | exact .inr ⟨rfl, by simp; done⟩ | exact .inr ⟨rfl, rfl, by simp; done⟩ | apply And.intro)) (by repeat' (first | exact trivial | rfl | exact (tkC_ren.1 _ _).symm | (simp; done) | apply And.intro)) (by first | exact .inl rfl | (refine .inr ⟨trivial, ?_⟩; first | (intro row h; rcases List.mem_singleton.1 h with rfl; exact nvB _) | (intro row h; cases h; done) | (simp; done)) | (refine .inr ⟨by simp [nvP, nvP.nvPs, nvD, nilS, errno], ?_⟩; first | (intro row h; rcases List.mem_singleton.1 h with rfl; exact nvB _) | (intro row h; cases h; done) | (simp [nvRow, nvD, nvP]; done))) ?_
        have hl0 := leb_ten x.log.length (by have := R.ll; omega)
        have hlog := logB_len R h
        have hb14 := hbl 14
        simp only [List.length_map, am, simprocAttr, tys]
        refine ALoopW.intro 107 0 (ι := { i : Nat // i ≤ x.log.length }) (fun i => [(1, .ptr 0 0), (4, .own 1), (8, int i.1)]) (fun i => [.box ((encN x).map .d), .own 1 ((headB x 14 ++ leb x.log.length ++ fl putE (x.log.take i.1)).map encB)]) (fun i => x.log.length - i.1) ⟨0, by omega⟩ [] [0, 2] ?_ (fun ⟨i, hi⟩ => ?_)
        · refine ⟨rfl, rfl, by simp, (fun i hi => absurd hi (Nat.not_lt_zero _)), ⟨.inr rfl, .inr rfl, .inr rfl, trivial⟩, ⟨.inr ⟨by decide, ?_⟩, .inr ⟨by decide, ?_⟩, trivial⟩, rfl, by decide, rfl, (by first | rfl | simp [scRow, tkC_scs])⟩
          · rfl
          · simp only [List.take_zero, fl_nil, List.append_nil]; rfl
        simp only
        rcases Nat.lt_or_ge i x.log.length with hlt | hge
        · have hb : x.log[i]? = some x.log[i] := List.getElem?_eq_getElem hlt
          have hltI : ((i : Int) < x.log.length) := by omega
          have e1 : IntKind.i64.wrap ((i : Int) + 1) = ((i + 1 : Nat) : Int) := by rw [IntWalk.i64_in _ (by have := h.hl; omega)]; simp
          obtain ⟨q1, q2, q3, q4, q5⟩ := R.e x.log[i] (List.getElem_mem hlt)
          have fe := h.he x.log[i] (List.getElem_mem hlt)
          have cP := refOPut x.log[i].2.2.1 fe.2.2 q5
          have hpl := putO_len fe.2.2 q5
          have w1 := w64 x.log[i].1 ⟨q1, by omega⟩
          have w2 := w64 x.log[i].2.1 ⟨by omega, q4⟩
          have g1 := lebt x.log[i].1 ⟨q1, by omega⟩
          have g2 := lebt x.log[i].2.1 ⟨by omega, q4⟩
          have hs := logB_succ x i hlt
          have hli := hlog i
          simp only [encO] at cP
          have q := refPut (headB x 14 ++ leb x.log.length ++ fl putE (x.log.take i)) x.log[i].1.toNat (by simp only [List.length_append]; omega) (by omega)
          have qq := refPut (headB x 14 ++ leb x.log.length ++ fl putE (x.log.take i) ++ leb x.log[i].1.toNat) x.log[i].2.1.toNat (by simp only [List.length_append]; omega) (by omega)
          have eb : headB x 14 ++ leb x.log.length ++ fl putE (x.log.take i) ++ leb x.log[i].1.toNat ++ leb x.log[i].2.1.toNat ++ putO x.log[i].2.2.1 = headB x 14 ++ leb x.log.length ++ fl putE (x.log.take (i + 1)) := by
            rw [← hs, putE]; simp
          simp only [int, encN, encE, hb, hltI, w1, List.length_map, Int.natCast_nonneg, Int.toNat_natCast, List.map_cons, List.map_nil, am, simprocAttr, tys]
          refine ACallD.of (q) (by kernel_rfl) [] [1] rfl (by simp) (by simp) (by simp) (by simp) (by repeat' (first | exact trivial | exact .inl rfl | exact .inr rfl | exact .inr ⟨rfl, rfl, rfl, by simp; done⟩ | exact .inr ⟨rfl, by simp; done⟩ | exact .inr ⟨rfl, rfl, by simp; done⟩ | apply And.intro)) (by repeat' (first | exact trivial | rfl | exact (tkC_ren.1 _ _).symm | (simp; done) | apply And.intro)) (by first | exact .inl rfl | (refine .inr ⟨trivial, ?_⟩; first | (intro row h; rcases List.mem_singleton.1 h with rfl; exact nvB _) | (intro row h; cases h; done) | (simp; done)) | (refine .inr ⟨by simp [nvP, nvP.nvPs, nvD, nilS, errno], ?_⟩; first | (intro row h; rcases List.mem_singleton.1 h with rfl; exact nvB _) | (intro row h; cases h; done) | (simp [nvRow, nvD, nvP]; done))) rfl rfl rfl rfl ?_
          simp only [hb, encE, w2, Int.natCast_nonneg, Int.toNat_natCast, am, simprocAttr, tys]
          refine ACallD.of (qq) (by kernel_rfl) [] [514] rfl (by simp) (by simp) (by simp) (by simp) (by repeat' (first | exact trivial | exact .inl rfl | exact .inr rfl | exact .inr ⟨rfl, rfl, rfl, by simp; done⟩ | exact .inr ⟨rfl, by simp; done⟩ | exact .inr ⟨rfl, rfl, by simp; done⟩ | apply And.intro)) (by repeat' (first | exact trivial | rfl | exact (tkC_ren.1 _ _).symm | (simp; done) | apply And.intro)) (by first | exact .inl rfl | (refine .inr ⟨trivial, ?_⟩; first | (intro row h; rcases List.mem_singleton.1 h with rfl; exact nvB _) | (intro row h; cases h; done) | (simp; done)) | (refine .inr ⟨by simp [nvP, nvP.nvPs, nvD, nilS, errno], ?_⟩; first | (intro row h; rcases List.mem_singleton.1 h with rfl; exact nvB _) | (intro row h; cases h; done) | (simp [nvRow, nvD, nvP]; done))) rfl rfl rfl rfl ?_
          simp only [hb, encE, Int.natCast_nonneg, Int.toNat_natCast, am, simprocAttr, tys]
          refine ⟨by kernel_rfl, ?_⟩
          refine ACall.of (cP) [] [] rfl (by simp) (by simp) (by simp) (by repeat' (first | exact trivial | exact .inl rfl | exact .inr rfl | exact .inr ⟨rfl, rfl, rfl, by simp; done⟩ | exact .inr ⟨rfl, by simp; done⟩ | exact .inr ⟨rfl, rfl, by simp; done⟩ | apply And.intro)) (by repeat' (first | exact trivial | rfl | exact (tkC_ren.1 _ _).symm | (simp; done) | apply And.intro)) (by first | exact .inl rfl | (refine .inr ⟨trivial, ?_⟩; first | (intro row h; rcases List.mem_singleton.1 h with rfl; exact nvB _) | (intro row h; cases h; done) | (simp; done)) | (refine .inr ⟨by simp [nvP, nvP.nvPs, nvD, nilS, errno], ?_⟩; first | (intro row h; rcases List.mem_singleton.1 h with rfl; exact nvB _) | (intro row h; cases h; done) | (simp [nvRow, nvD, nvP]; done))) ?_
          simp only [← List.map_append, List.length_map, eb, e1, am, simprocAttr, tys]
          refine ⟨by (try simp only [List.length_append]); omega, ⟨i + 1, by omega⟩, [], [0, 1155], ⟨rfl, rfl, by simp, (fun i hi => absurd hi (Nat.not_lt_zero _)), ⟨.inr rfl, .inr rfl, .inr rfl, trivial⟩, ⟨.inr ⟨by decide, ?_⟩, .inr ⟨by decide, ?_⟩, trivial⟩, rfl, by decide, rfl, (by first | rfl | simp [scRow, tkC_scs])⟩, by show x.log.length - (i + 1) < x.log.length - i; omega⟩
          · rfl
          · rfl
        · have hltI : ¬ ((i : Int) < x.log.length) := by omega
          have hli := hlog i
          have eb : headB x 14 ++ leb x.log.length ++ fl putE (x.log.take i) = bodyN x := by rw [List.take_of_length_le hge]; rfl
          have ebl : (bodyN x).length ≤ 1000000 := by rw [← eb]; simp only [List.length_append]; omega
          simp only [int, encN, hltI, eb, List.length_map, List.map_cons, List.map_nil, am, simprocAttr, tys]
          refine ACall.of (refSPut (bodyN x) (by omega)) [] [1] rfl (by simp) (by simp) (by simp) (by repeat' (first | exact trivial | exact .inl rfl | exact .inr rfl | exact .inr ⟨rfl, rfl, rfl, by simp; done⟩ | exact .inr ⟨rfl, by simp; done⟩ | exact .inr ⟨rfl, rfl, by simp; done⟩ | apply And.intro)) (by repeat' (first | exact trivial | rfl | exact (tkC_ren.1 _ _).symm | (simp; done) | apply And.intro)) (by first | exact .inl rfl | (refine .inr ⟨trivial, ?_⟩; first | (intro row h; rcases List.mem_singleton.1 h with rfl; exact nvB _) | (intro row h; cases h; done) | (simp; done)) | (refine .inr ⟨by simp [nvP, nvP.nvPs, nvD, nilS, errno], ?_⟩; first | (intro row h; rcases List.mem_singleton.1 h with rfl; exact nvB _) | (intro row h; cases h; done) | (simp [nvRow, nvD, nvP]; done))) ?_
          simp only [errno, FinR, evRes, evRVs, evRV, am, simprocAttr, tys]
          exact ⟨_, [], [2], rfl, ⟨rfl, rfl, by simp, (fun i hi => absurd hi (Nat.not_lt_zero _)), trivial, ⟨.inr ⟨by decide, rfl⟩, trivial⟩, rfl, by decide, rfl, (by first | rfl | simp [scRow, tkC_scs])⟩, rfl, rfl⟩
end Go.Proofs.Ytflpphgccjlkjaa

set_option linter.unusedSimpArgs false
set_option linter.unusedVariables false
namespace Go.Proofs.Ytflpphgccjlkjaa
open Go Go.AM

def okE (e : EntT) : Bool := decide (e.2.2.1.2.1.length ≤ 12) && decide (e.2.2.1.2.2.2.1.length ≤ 12)
def fewE (l : List EntT) : List EntT := (l.take 310).takeWhile okE
theorem fewE_at (l : List EntT) (i : Nat) (hi : i ≤ 310) (h : ∀ x ∈ l.take i, okE x = true) (hs : i = 310 ∨ i = l.length ∨ ∃ x, l[i]? = some x ∧ okE x = false) : fewE l = l.take i := by
  unfold fewE
  rw [takeWhile_stop okE (l.take 310) i (fun x hx => h x (by rw [List.take_take] at hx; rw [Nat.min_eq_left hi] at hx; exact hx)) (fun x hx => ?_)]
  · rw [List.take_take, Nat.min_eq_left hi]
  · rw [List.getElem?_take] at hx
    split at hx
    · rename_i hlt
      rcases hs with rfl | rfl | ⟨y, hy, hb⟩
      · omega
      · simp at hx
      · rw [hy] at hx; cases hx; exact hb
    · cases hx
def fewN (x : NT) : NT := { x with log := fewE x.log }

set_option maxRecDepth 8000 in
set_option maxHeartbeats 2000000 in
theorem few17 (x : NT) (h : FitN x) : AFun Try.prog 10 [.d (.agg (encN x))] [] (.d (.agg (encN (fewN x)))) [] := by
  obtain ⟨k, f, t, v, n, i0, s, ld, l0, l1, l2, l3, l4, l5, l6, l⟩ := x
  have hl := h.hl
  have he := h.he
  simp only at hl he
  clear h
  refine AFun.of_walk hP Try.func10 rfl rfl rfl (by simp) rfl ?_
  simp only [Try.f10, encN, fewN, am, simprocAttr, tys]
  refine ALoopW.intro 36 0 (ι := { i : Nat // i ≤ l.length ∧ i ≤ 310 ∧ ∀ x ∈ l.take i, okE x = true }) (fun i => [(1, .ptr 0 0), (2, .ptr 1 0), (6, .d (.sl 7 (l.map encE))), (7, int l.length), (8, int i.1)])
    (fun _ => [.box [.d (.lit (.int .u8 k.toNat)), int f, int t, int v, int n, int i0, int s, bool ld, int l0, int l1, int l2, int l3, int l4, int l5, int l6, .d (.sl 7 (l.map encE))], .box [.d (.lit (.int .u8 0)), int 0, int 0, int 0, int 0, int 0, int 0, bool false, int 0, int 0, int 0, int 0, int 0, int 0, int 0, nilS]]) (fun i => l.length - i.1) ⟨0, by omega, by omega, by simp⟩ [] [0, 1] ?_ (fun ⟨i, hi, h12, hall⟩ => ?_)
  · exact ⟨rfl, rfl, by simp, (fun i hi => absurd hi (Nat.not_lt_zero _)), ⟨.inr rfl, .inr rfl, .inr rfl, .inr rfl, .inr rfl, trivial⟩, ⟨.inr ⟨by decide, rfl⟩, .inr ⟨by decide, rfl⟩, trivial⟩, rfl, by decide, rfl, (by first | rfl | simp [scRow, tkC_scs])⟩
  have hend : ∀ (hs : i = 310 ∨ i = l.length ∨ ∃ x, l[i]? = some x ∧ okE x = false), List.take i (List.map encE l) = (fewE l).map encE := fun hs => by rw [fewE_at l i h12 hall hs, List.map_take]
  rcases Nat.lt_or_ge i l.length with hlt | hge
  case' inr =>
    have hlt2 : ¬ ((i : Int) < l.length) := by omega
    have hi' : i = l.length := by omega
    have e : fewE l = l := by rw [fewE_at l i h12 hall (.inr (.inl hi')), hi', List.take_length]
    simp only [int, bool, nilS, hlt2, e, FinR, evRes, evRVs, evRV, am, simprocAttr, tys]
    exact ⟨_, [], [], rfl, Ent.plain rfl rfl rfl trivial rfl, rfl, rfl⟩
  have hb : l[i]? = some l[i] := List.getElem?_eq_getElem hlt
  have hlt2 : ((i : Int) < l.length) := by omega
  have e1 : IntKind.i64.wrap ((i : Int) + 1) = ((i + 1 : Nat) : Int) := by rw [IntWalk.i64_in _ (by omega)]; simp
  have hle : ((i : Int) ≤ l.length) := by omega
  have hle0 : ((0 : Int) ≤ (i : Int)) := by omega
  rcases hg : decide (i < 310 ∧ l[i].2.2.1.2.1.length ≤ 12 ∧ l[i].2.2.1.2.2.2.1.length ≤ 12) with _ | _
  case' true =>
    obtain ⟨q1, q2, q3⟩ := of_decide_eq_true hg
    have g1 : ¬ ((310 : Int) ≤ i) := by omega
    have g2 : ¬ ((12 : Int) < l[i].2.2.1.2.1.length) := by omega
    have g3 : ¬ ((12 : Int) < l[i].2.2.1.2.2.2.1.length) := by omega
    simp only [int, bool, nilS, hb, hlt2, encE, g1, g2, g3, e1, List.length_map, Int.natCast_nonneg, hle, am, simprocAttr, tys]
    refine ⟨⟨i + 1, by omega, by omega, fun x hx' => ?_⟩, [], [0, 1], ⟨rfl, rfl, by simp, (fun i hi => absurd hi (Nat.not_lt_zero _)), ⟨.inr rfl, .inr rfl, .inr rfl, .inr rfl, .inr rfl, trivial⟩, ⟨.inr ⟨by decide, rfl⟩, .inr ⟨by decide, rfl⟩, trivial⟩, rfl, by decide, rfl, (by first | rfl | simp [scRow, tkC_scs])⟩, by show l.length - (i + 1) < l.length - i; omega⟩
    rw [List.take_succ_eq_append_getElem hlt] at hx'
    rcases List.mem_append.1 hx' with h | h
    · exact hall x h
    · simp at h; subst h; simp [okE]; omega
  have hg' := of_decide_eq_false hg
  have hcase : ((310 : Int) ≤ i ∧ i = 310) ∨ (¬ ((310 : Int) ≤ i) ∧ ((12 : Int) < l[i].2.2.1.2.1.length) ∧ okE l[i] = false) ∨ (¬ ((310 : Int) ≤ i) ∧ ¬ ((12 : Int) < l[i].2.2.1.2.1.length) ∧ ((12 : Int) < l[i].2.2.1.2.2.2.1.length) ∧ okE l[i] = false) := by
    rcases Nat.lt_or_ge i 310 with a | a
    · right
      rcases Nat.lt_or_ge 12 l[i].2.2.1.2.1.length with b | b
      · left; exact ⟨by omega, by omega, by simp [okE]; omega⟩
      · right; exact ⟨by omega, by omega, by omega, by simp [okE]; omega⟩
    · left; omega
  rcases hcase with ⟨g1, hs⟩ | ⟨g1, g2, hs⟩ | ⟨g1, g2, g3, hs⟩
  · have hE := hend (.inl hs)
    simp only [int, bool, nilS, hb, hlt2, encE, g1, List.length_map, hle, hle0, hE, Int.natCast_nonneg, Int.toNat_natCast, List.drop_zero, FinR, evRes, evRVs, evRV, am, simprocAttr, tys]
    exact ⟨_, [], [], rfl, Ent.plain rfl rfl rfl trivial rfl, rfl, rfl⟩
  · have hE := hend (.inr (.inr ⟨l[i], hb, hs⟩))
    simp only [int, bool, nilS, hb, hlt2, encE, g1, g2, List.length_map, hle, hle0, hE, Int.natCast_nonneg, Int.toNat_natCast, List.drop_zero, FinR, evRes, evRVs, evRV, am, simprocAttr, tys]
    exact ⟨_, [], [], rfl, Ent.plain rfl rfl rfl trivial rfl, rfl, rfl⟩
  · have hE := hend (.inr (.inr ⟨l[i], hb, hs⟩))
    simp only [int, bool, nilS, hb, hlt2, encE, g1, g2, g3, List.length_map, hle, hle0, hE, Int.natCast_nonneg, Int.toNat_natCast, List.drop_zero, FinR, evRes, evRVs, evRV, am, simprocAttr, tys]
    exact ⟨_, [], [], rfl, Ent.plain rfl rfl rfl trivial rfl, rfl, rfl⟩
end Go.Proofs.Ytflpphgccjlkjaa

set_option linter.unusedSimpArgs false
set_option linter.unusedVariables false
namespace Go.Proofs.Ytflpphgccjlkjaa
open Go Go.AM

def exN : NT := ⟨2, 1, 0, 2, 3, 0, 0, false, 0, 0, 0, 0, 0, 0, 0, []⟩
theorem fitExN : FitN exN := ⟨by decide, by simp [exN]⟩
theorem exR : rightN exN = true := by decide
def exC : List DV := [.lit (.int .u8 2), .lit (.int .i64 1), .lit (.int .i64 0), .lit (.int .i64 2), .lit (.int .i64 3), .lit (.int .i64 0), .lit (.int .i64 0), .lit (.bool false), .lit (.int .i64 0), .lit (.int .i64 0), .lit (.int .i64 0), .lit (.int .i64 0), .lit (.int .i64 0), .lit (.int .i64 0), .lit (.int .i64 0), .lit (.slice none 0 0)]
theorem exN_rep (rows : AM.Rows) (β : Nat → AM.Loc) (w : World) (X : Nat → Prop) (v : Value) (h : repP rows β w X (.d (.agg exC)) v) : repP rows β w X (.d (.agg (encN exN))) v := by
  unfold repP rep at *
  obtain ⟨vs, e, h⟩ := h
  have hc : cle exC (encN exN) := ⟨.inl rfl, .inl rfl, .inl rfl, .inl rfl, .inl rfl, .inl rfl, .inl rfl, .inl rfl, .inl rfl, .inl rfl, .inl rfl, .inl rfl, .inl rfl, .inl rfl, .inl rfl, .inr ⟨rfl, 7, rfl⟩, trivial⟩
  exact ⟨vs, e, reps_cle hc h⟩
theorem leb_sm (n : Nat) (h : n < 128) : leb n = [UInt8.ofNat n] := by rw [leb, if_pos h]
theorem exBody : bodyN exN = [2, 1, 0, 2, 3, 0, 0, 0, 0, 0, 0, 0, 0, 0, 0, 0] := by
  have h : ∀ n : Nat, n < 128 → leb n = [UInt8.ofNat n] := leb_sm
  have h0 := h 0 (by decide); have h1 := h 1 (by decide); have h2 := h 2 (by decide); have h3 := h 3 (by decide)
  show 2 :: ([leb 1, leb 0, leb 2, leb 3, leb 0, leb 0, [0], leb 0, leb 0, leb 0, leb 0, leb 0, leb 0, leb 0] : List (List UInt8)).flatten ++ leb 0 ++ [] = _
  rw [h0, h1, h2, h3]; rfl
theorem exSealed : ∃ y : List UInt8, sealed (bodyN exN) = 16 :: 2 :: 1 :: 0 :: 2 :: 3 :: y ∧ y.length = 15 := by
  have h16 := leb_sm 16 (by decide)
  rw [exBody]
  refine ⟨[0, 0, 0, 0, 0, 0, 0, 0, 0, 0, 0] ++ be32 (crc (leb 16 ++ [2, 1, 0, 2, 3, 0, 0, 0, 0, 0, 0, 0, 0, 0, 0, 0])), ?_, by simp [be32]⟩
  show leb 16 ++ _ ++ be32 (crc (leb 16 ++ _)) = _
  rw [h16]; rfl

theorem shown17 : AFun Try.prog 9 [] [] (bool true) [] := by
  refine AFun.of_walk hP Try.func9 rfl rfl rfl (by simp) rfl ?_
  obtain ⟨y, hy, hyl⟩ := exSealed
  have q : AFun Try.prog 12 [.d (.agg exC)] [] (.tup [.own 0, errno 0]) [.own 1 ((sealed (bodyN exN)).map encB)] := AFun.arg1 (notePut exN fitExN exR) exN_rep
  simp only [exC] at q
  rw [hy] at q
  simp only [Try.f9, am, simprocAttr, tys]
  refine ACall.of (q) [] [] rfl (by simp) (by simp) (by simp) (by repeat' (first | exact trivial | exact .inl rfl | exact .inr rfl | exact .inr ⟨rfl, rfl, rfl, by simp; done⟩ | exact .inr ⟨rfl, by simp; done⟩ | exact .inr ⟨rfl, rfl, by simp; done⟩ | apply And.intro)) (by repeat' (first | exact trivial | rfl | exact (tkC_ren.1 _ _).symm | (simp; done) | apply And.intro)) (by first | exact .inl rfl | (refine .inr ⟨trivial, ?_⟩; first | (intro row h; rcases List.mem_singleton.1 h with rfl; exact nvB _) | (intro row h; cases h; done) | (simp; done)) | (refine .inr ⟨by simp [nvP, nvP.nvPs, nvD, nilS, errno], ?_⟩; first | (intro row h; rcases List.mem_singleton.1 h with rfl; exact nvB _) | (intro row h; cases h; done) | (simp [nvRow, nvD, nvP]; done))) ?_
  have hlen : ((16 :: 2 :: 1 :: 0 :: 2 :: 3 :: y : List UInt8).length : Int) = 21 := by simp only [List.length_cons, hyl]; rfl
  have hn : (16 :: 2 :: 1 :: 0 :: 2 :: 3 :: y : List UInt8).length = 21 := by simp only [List.length_cons, hyl]
  have h6 : (16 :: 2 :: 1 :: 0 :: 2 :: 3 :: y : List UInt8).take 6 = [16, 2, 1, 0, 2, 3] := rfl
  have hz : (([16, 2, 1, 0, 2, 3] : List UInt8) == [16, 2, 1, 0, 2, 3]) = true := rfl
  generalize (16 :: 2 :: 1 :: 0 :: 2 :: 3 :: y : List UInt8) = z at *
  generalize hz6 : ([16, 2, 1, 0, 2, 3] : List UInt8) = z6 at h6
  have hz' : (z6 == [16, 2, 1, 0, 2, 3]) = true := by rw [← hz6]; rfl
  simp only [errno, bool, List.length_map, hn, hlen, List.drop_zero, ← List.map_take, h6, strOf_encB, bl_toList, hz', FinR, evRes, evRVs, evRV, am, simprocAttr, tys]
  exact ⟨_, [], [], rfl, Ent.plain rfl rfl rfl trivial rfl, rfl, rfl⟩
end Go.Proofs.Ytflpphgccjlkjaa
