/- Proved here: what functions of the program compute, and plain laws. No condition. -/
import Derived.Test.YtkadildabhkocaaText
import Derived.Test.YtkadildabhkocaaEnd
import Derived.Test.YtkadildabhkocaaRNum
import Derived.Test.YtkadildabhkocaaLay
set_option linter.unusedSimpArgs false
set_option linter.unusedVariables false
namespace Go.Proofs.Ytkadildabhkocaa
open Go Go.AM

theorem tkInt (t : Tk) (hl : ∀ bs, t = some bs → bs.length ≤ 100000000000000) : AFun Try.prog 57 [.ptr 0 0] [.box (tkC t)] (int (unfold' (numT t).1)) [.box (tkC (numT t).2)] := by
  refine AFun.of_walk hP Try.func57 rfl rfl rfl (by simp) rfl ?_
  obtain ⟨hn, hr⟩ := numT_lt t hl
  simp only [Try.f57, am, simprocAttr, tys]
  refine ACall.of (tkNum t hl) [0] [] rfl (by simp) (by simp) (by simp) (by repeat' (first | exact trivial | exact .inl rfl | exact .inr rfl | exact .inr ⟨rfl, by simp⟩ | exact .inr ⟨rfl, rfl, by simp⟩ | apply And.intro)) (by repeat' (first | exact trivial | rfl | exact (tkC_ren.1 _ _).symm | (simp; done) | apply And.intro)) (by first | exact .inl rfl | (refine .inr ⟨trivial, ?_⟩; first | (intro row h; rcases List.mem_singleton.1 h with rfl; exact nvB _) | (intro row h; cases h; done) | (simp; done)) | (refine .inr ⟨by simp [nvP, nvP.nvPs, nvD, nilS, errno], ?_⟩; first | (intro row h; rcases List.mem_singleton.1 h with rfl; exact nvB _) | (intro row h; cases h; done) | (simp [nvRow, nvD, nvP]; done))) ?_
  simp only [tkC_ren, u64, am, simprocAttr, tys]
  refine ACall.of (octsOpen (numT t).1 hn) [] [] rfl (by simp) (by simp) (by simp) (by repeat' (first | exact trivial | exact .inl rfl | exact .inr rfl | exact .inr ⟨rfl, by simp⟩ | exact .inr ⟨rfl, rfl, by simp⟩ | apply And.intro)) (by repeat' (first | exact trivial | rfl | exact (tkC_ren.1 _ _).symm | (simp; done) | apply And.intro)) (by first | exact .inl rfl | (refine .inr ⟨trivial, ?_⟩; first | (intro row h; rcases List.mem_singleton.1 h with rfl; exact nvB _) | (intro row h; cases h; done) | (simp; done)) | (refine .inr ⟨by simp [nvP, nvP.nvPs, nvD, nilS, errno], ?_⟩; first | (intro row h; rcases List.mem_singleton.1 h with rfl; exact nvB _) | (intro row h; cases h; done) | (simp [nvRow, nvD, nvP]; done))) ?_
  simp only [int, FinR, evRes, evRVs, evRV, am, simprocAttr, tys]
  rcases (numT t).2 with _ | r
  · exact ⟨_, [], [0], rfl, ⟨rfl, rfl, by simp, (fun i hi => .inr ((by decide : ∀ i, i < 1 → ([0] : List Nat).getD i 0 = i) i hi)), trivial, ⟨.inr ⟨by decide, rfl⟩, trivial⟩, rfl, by decide, rfl, (by first | rfl | simp [scRow, tkC_scs])⟩, rfl, rfl⟩
  · exact ⟨_, [], [0], rfl, ⟨rfl, rfl, by simp, (fun i hi => .inr ((by decide : ∀ i, i < 1 → ([0] : List Nat).getD i 0 = i) i hi)), trivial, ⟨.inr ⟨by decide, rfl⟩, trivial⟩, rfl, by decide, rfl, (by first | rfl | simp [scRow, tkC_scs])⟩, rfl, rfl⟩

theorem refInt (t : Tk) (hl : ∀ bs, t = some bs → bs.length ≤ 100000000000000) : AFun Try.prog 38 [.ptr 0 0] [.box (tkC t)] (int (unfold' (numT t).1)) [.box (tkC (numT t).2)] := by
  refine AFun.of_walk hP Try.func38 rfl rfl rfl (by simp) rfl ?_
  obtain ⟨hn, hr⟩ := numT_lt t hl
  simp only [Try.f38, am, simprocAttr, tys]
  refine ACall.of (refNum t hl) [0] [] rfl (by simp) (by simp) (by simp) (by repeat' (first | exact trivial | exact .inl rfl | exact .inr rfl | exact .inr ⟨rfl, by simp⟩ | exact .inr ⟨rfl, rfl, by simp⟩ | apply And.intro)) (by repeat' (first | exact trivial | rfl | exact (tkC_ren.1 _ _).symm | (simp; done) | apply And.intro)) (by first | exact .inl rfl | (refine .inr ⟨trivial, ?_⟩; first | (intro row h; rcases List.mem_singleton.1 h with rfl; exact nvB _) | (intro row h; cases h; done) | (simp; done)) | (refine .inr ⟨by simp [nvP, nvP.nvPs, nvD, nilS, errno], ?_⟩; first | (intro row h; rcases List.mem_singleton.1 h with rfl; exact nvB _) | (intro row h; cases h; done) | (simp [nvRow, nvD, nvP]; done))) ?_
  simp only [tkC_ren, u64, am, simprocAttr, tys]
  refine ACall.of (refOpen (numT t).1 hn) [] [] rfl (by simp) (by simp) (by simp) (by repeat' (first | exact trivial | exact .inl rfl | exact .inr rfl | exact .inr ⟨rfl, by simp⟩ | exact .inr ⟨rfl, rfl, by simp⟩ | apply And.intro)) (by repeat' (first | exact trivial | rfl | exact (tkC_ren.1 _ _).symm | (simp; done) | apply And.intro)) (by first | exact .inl rfl | (refine .inr ⟨trivial, ?_⟩; first | (intro row h; rcases List.mem_singleton.1 h with rfl; exact nvB _) | (intro row h; cases h; done) | (simp; done)) | (refine .inr ⟨by simp [nvP, nvP.nvPs, nvD, nilS, errno], ?_⟩; first | (intro row h; rcases List.mem_singleton.1 h with rfl; exact nvB _) | (intro row h; cases h; done) | (simp [nvRow, nvD, nvP]; done))) ?_
  simp only [int, FinR, evRes, evRVs, evRV, am, simprocAttr, tys]
  rcases (numT t).2 with _ | r
  · exact ⟨_, [], [0], rfl, ⟨rfl, rfl, by simp, (fun i hi => .inr ((by decide : ∀ i, i < 1 → ([0] : List Nat).getD i 0 = i) i hi)), trivial, ⟨.inr ⟨by decide, rfl⟩, trivial⟩, rfl, by decide, rfl, (by first | rfl | simp [scRow, tkC_scs])⟩, rfl, rfl⟩
  · exact ⟨_, [], [0], rfl, ⟨rfl, rfl, by simp, (fun i hi => .inr ((by decide : ∀ i, i < 1 → ([0] : List Nat).getD i 0 = i) i hi)), trivial, ⟨.inr ⟨by decide, rfl⟩, trivial⟩, rfl, by decide, rfl, (by first | rfl | simp [scRow, tkC_scs])⟩, rfl, rfl⟩

end Go.Proofs.Ytkadildabhkocaa
