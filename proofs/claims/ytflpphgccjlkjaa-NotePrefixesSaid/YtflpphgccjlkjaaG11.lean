/- Proved here: what the functions of the program compute. No condition. -/
import Derived.Test.YtflpphgccjlkjaaG10
set_option linter.all false
set_option linter.unusedSimpArgs false
set_option linter.unusedVariables false
set_option linter.unusedSimpArgs false
set_option linter.unusedVariables false
namespace Go.Proofs.Ytflpphgccjlkjaa
open Go Go.AM

theorem prefB_take (l : List EntT) (k : Nat) : prefB (l.take k) l = true := decide_eq_true (by rw [List.length_take]; exact List.take_eq_take_min)
theorem prefB_takes (l : List EntT) (k m : Nat) (hk : k ≤ l.length) (hm : m ≤ l.length) : prefB (l.take k) (l.take m) = decide (k ≤ m) := by
  unfold prefB
  rw [List.length_take, Nat.min_eq_left hk, List.take_take]
  by_cases h : k ≤ m
  · rw [Nat.min_eq_left h, decide_eq_true h]; exact decide_eq_true rfl
  · rw [decide_eq_false h]
    refine decide_eq_false fun e => ?_
    have := congrArg List.length e
    rw [List.length_take, List.length_take] at this
    omega
theorem u16_mod (c : Int) (h : (Lit.int .u16 c).wf = true) (n : Nat) : IntKind.i64.wrap c = c ∧ ∃ k : Nat, k ≤ n ∧ c.tmod ((n + 1 : Nat) : Int) = (k : Int) := by
  simp only [Lit.wf, Bool.and_eq_true, decide_eq_true_eq] at h
  have h1 : 0 ≤ c := h.1
  have h2 : c ≤ 65535 := h.2
  refine ⟨IntWalk.i64_in _ (by omega), c.toNat % (n + 1), by have := Nat.mod_lt c.toNat (show 0 < n + 1 by omega); omega, ?_⟩
  have e : c = (c.toNat : Int) := by omega
  rw [e, ← Int.ofNat_tmod]; simp

set_option maxRecDepth 8000 in
set_option maxHeartbeats 2000000 in
theorem lawNotePrefixes (x : NT) (c d : Int) (h : FitN x) (hc : (Lit.int .u16 c).wf = true) (hd : (Lit.int .u16 d).wf = true) :
    AFun Try.prog 3 [.d (.agg (encN x)), .d (.lit (.int .u16 c)), .d (.lit (.int .u16 d))] [] (bool true) [] := by
  refine AFun.of_walk hP Try.func3 rfl rfl rfl (by simp) rfl ?_
  have fa := few17 x h
  have fitA := fewN_fit h
  have hlen := fewE_len x.log
  have hlen' : (fewN x).log.length ≤ 310 := hlen
  clear hlen
  generalize fewN x = A at *
  obtain ⟨c1, k, hk, c2⟩ := u16_mod c hc A.log.length
  obtain ⟨d1, m, hm, d2⟩ := u16_mod d hd A.log.length
  have hl := fitA.hl
  have he := fitA.he
  simp only [encN] at fa
  generalize A.log = L at *
  have w1 : IntKind.i64.wrap ((L.length : Int) + 1) = ((L.length + 1 : Nat) : Int) := by rw [IntWalk.i64_in _ (by omega)]; simp
  have hn0 : ¬ (((L.length + 1 : Nat) : Int) = 0) := by omega
  have hkI : (0 : Int) ≤ k := by omega
  have hkI2 : (k : Int) ≤ L.length := by omega
  have hmI : (0 : Int) ≤ m := by omega
  have hmI2 : (m : Int) ≤ L.length := by omega
  have q1 := notePrefix (L.take k) L (by simp; omega) hl (fun e h => he e (List.mem_of_mem_take h)) he
  have q2 := notePrefix (L.take k) (L.take m) (by simp; omega) (by simp; omega) (fun e h => he e (List.mem_of_mem_take h)) (fun e h => he e (List.mem_of_mem_take h))
  have q3 := notePrefix [] L (by simp) hl (fun e h => by cases h) he
  have q4 := notePrefix L L hl hl he he
  rw [prefB_take] at q1
  rw [prefB_takes _ _ _ hk hm] at q2
  rw [show prefB [] L = true from prefB_take L 0] at q3
  rw [show prefB L L = true from by have := prefB_take L L.length; rwa [List.take_length] at this] at q4
  have hki : decide ((k : Int) ≤ m) = decide (k ≤ m) := by
    by_cases h : k ≤ m
    · rw [decide_eq_true h]; exact decide_eq_true (by omega)
    · rw [decide_eq_false h]; exact decide_eq_false (by omega)
  simp only [Try.f3, encN, am, simprocAttr, tys]
  refine ACall.of (shown17) [] [] rfl (by simp) (by simp) (by simp) (by repeat' (first | exact trivial | exact .inl rfl | exact .inr rfl | exact .inr ⟨rfl, rfl, rfl, by simp; done⟩ | exact .inr ⟨rfl, by simp; done⟩ | exact .inr ⟨rfl, rfl, by simp; done⟩ | apply And.intro)) (by repeat' (first | exact trivial | rfl | exact (tkC_ren.1 _ _).symm | (simp; done) | apply And.intro)) (by first | exact .inl rfl | (refine .inr ⟨trivial, ?_⟩; first | (intro row h; rcases List.mem_singleton.1 h with rfl; exact nvB _) | (intro row h; cases h; done) | (simp; done)) | (refine .inr ⟨by simp [nvP, nvP.nvPs, nvD, nilS, errno], ?_⟩; first | (intro row h; rcases List.mem_singleton.1 h with rfl; exact nvB _) | (intro row h; cases h; done) | (simp [nvRow, nvD, nvP]; done))) ?_
  simp only [bool, am, simprocAttr, tys]
  refine ACall.of (fa) [] [] rfl (by simp) (by simp) (by simp) (by repeat' (first | exact trivial | exact .inl rfl | exact .inr rfl | exact .inr ⟨rfl, rfl, rfl, by simp; done⟩ | exact .inr ⟨rfl, by simp; done⟩ | exact .inr ⟨rfl, rfl, by simp; done⟩ | apply And.intro)) (by repeat' (first | exact trivial | rfl | exact (tkC_ren.1 _ _).symm | (simp; done) | apply And.intro)) (by first | exact .inl rfl | (refine .inr ⟨trivial, ?_⟩; first | (intro row h; rcases List.mem_singleton.1 h with rfl; exact nvB _) | (intro row h; cases h; done) | (simp; done)) | (refine .inr ⟨by simp [nvP, nvP.nvPs, nvD, nilS, errno], ?_⟩; first | (intro row h; rcases List.mem_singleton.1 h with rfl; exact nvB _) | (intro row h; cases h; done) | (simp [nvRow, nvD, nvP]; done))) ?_
  simp only [List.length_map, c1, c2, d1, d2, w1, hn0, hkI, hkI2, hmI, hmI2, hki, Int.toNat_natCast, ← List.map_take, List.drop_zero, am, simprocAttr, tys]
  refine ⟨by kernel_rfl, ?_⟩
  refine ACallD.of (q1) (by kernel_rfl) [] [] rfl (by simp) (by simp) (by simp) (by simp) (by repeat' (first | exact trivial | exact .inl rfl | exact .inr rfl | exact .inr ⟨rfl, rfl, rfl, by simp; done⟩ | exact .inr ⟨rfl, by simp; done⟩ | exact .inr ⟨rfl, rfl, by simp; done⟩ | apply And.intro)) (by repeat' (first | exact trivial | rfl | exact (tkC_ren.1 _ _).symm | (simp; done) | apply And.intro)) (by first | exact .inl rfl | (refine .inr ⟨trivial, ?_⟩; first | (intro row h; rcases List.mem_singleton.1 h with rfl; exact nvB _) | (intro row h; cases h; done) | (simp; done)) | (refine .inr ⟨by simp [nvP, nvP.nvPs, nvD, nilS, errno], ?_⟩; first | (intro row h; rcases List.mem_singleton.1 h with rfl; exact nvB _) | (intro row h; cases h; done) | (simp [nvRow, nvD, nvP]; done))) rfl rfl rfl rfl ?_
  simp only [bool, List.length_map, hkI, hkI2, hmI, hmI2, hki, Int.toNat_natCast, ← List.map_take, List.drop_zero, am, simprocAttr, tys]
  refine ACallD.of (q2) (by kernel_rfl) [] [] rfl (by simp) (by simp) (by simp) (by simp) (by repeat' (first | exact trivial | exact .inl rfl | exact .inr rfl | exact .inr ⟨rfl, rfl, rfl, by simp; done⟩ | exact .inr ⟨rfl, by simp; done⟩ | exact .inr ⟨rfl, rfl, by simp; done⟩ | apply And.intro)) (by repeat' (first | exact trivial | rfl | exact (tkC_ren.1 _ _).symm | (simp; done) | apply And.intro)) (by first | exact .inl rfl | (refine .inr ⟨trivial, ?_⟩; first | (intro row h; rcases List.mem_singleton.1 h with rfl; exact nvB _) | (intro row h; cases h; done) | (simp; done)) | (refine .inr ⟨by simp [nvP, nvP.nvPs, nvD, nilS, errno], ?_⟩; first | (intro row h; rcases List.mem_singleton.1 h with rfl; exact nvB _) | (intro row h; cases h; done) | (simp [nvRow, nvD, nvP]; done))) rfl rfl rfl rfl ?_
  simp only [bool, List.length_map, hkI, hkI2, hmI, hmI2, hki, Int.toNat_natCast, ← List.map_take, List.drop_zero, beq_self_eq_true, am, simprocAttr, tys]
  refine ACallD.of (q3) (by kernel_rfl) [] [] rfl (by simp) (by simp) (by simp) (by simp) (by repeat' (first | exact trivial | exact .inl rfl | exact .inr rfl | exact .inr ⟨rfl, rfl, rfl, by simp; done⟩ | exact .inr ⟨rfl, by simp; done⟩ | exact .inr ⟨rfl, rfl, by simp; done⟩ | apply And.intro)) (by repeat' (first | exact trivial | rfl | exact (tkC_ren.1 _ _).symm | (simp; done) | apply And.intro)) (by first | exact .inl rfl | (refine .inr ⟨trivial, ?_⟩; first | (intro row h; rcases List.mem_singleton.1 h with rfl; exact nvB _) | (intro row h; cases h; done) | (simp; done)) | (refine .inr ⟨by simp [nvP, nvP.nvPs, nvD, nilS, errno], ?_⟩; first | (intro row h; rcases List.mem_singleton.1 h with rfl; exact nvB _) | (intro row h; cases h; done) | (simp [nvRow, nvD, nvP]; done))) rfl rfl rfl rfl ?_
  simp only [bool, am, simprocAttr, tys]
  refine ACallD.of (q4) (by kernel_rfl) [] [] rfl (by simp) (by simp) (by simp) (by simp) (by repeat' (first | exact trivial | exact .inl rfl | exact .inr rfl | exact .inr ⟨rfl, rfl, rfl, by simp; done⟩ | exact .inr ⟨rfl, by simp; done⟩ | exact .inr ⟨rfl, rfl, by simp; done⟩ | apply And.intro)) (by repeat' (first | exact trivial | rfl | exact (tkC_ren.1 _ _).symm | (simp; done) | apply And.intro)) (by first | exact .inl rfl | (refine .inr ⟨trivial, ?_⟩; first | (intro row h; rcases List.mem_singleton.1 h with rfl; exact nvB _) | (intro row h; cases h; done) | (simp; done)) | (refine .inr ⟨by simp [nvP, nvP.nvPs, nvD, nilS, errno], ?_⟩; first | (intro row h; rcases List.mem_singleton.1 h with rfl; exact nvB _) | (intro row h; cases h; done) | (simp [nvRow, nvD, nvP]; done))) rfl rfl rfl rfl ?_
  simp only [bool, FinR, evRes, evRVs, evRV, am, simprocAttr, tys]
  exact ⟨by kernel_rfl, ⟨_, [], [], rfl, Ent.plain rfl rfl rfl trivial rfl, rfl, rfl⟩⟩

theorem lawNotePrefixes' (a : NoteD.El) (c d : Int) (ha : NoteD.ok a) (hc : (Lit.int .u16 c).wf = true) (hd : (Lit.int .u16 d).wf = true) :
    AFun Try.prog 3 [argP NoteD a, .d (.lit (.int .u16 c)), .d (.lit (.int .u16 d))] [] (bool true) [] := by
  obtain ⟨x, ex, hx⟩ := argN a ha
  rw [ex]
  exact lawNotePrefixes x c d hx hc hd
end Go.Proofs.Ytflpphgccjlkjaa
