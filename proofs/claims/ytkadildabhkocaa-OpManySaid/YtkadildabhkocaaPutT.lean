/- Proved here: what functions of the program compute, and plain laws. No condition. -/
import Derived.Test.YtkadildabhkocaaLeb
set_option linter.unusedSimpArgs false
set_option linter.unusedVariables false
namespace Go.Proofs.Ytkadildabhkocaa
open Go Go.AM

def lebT (s : List UInt8) : List UInt8 := leb s.length ++ s
theorem lebT_len (s : List UInt8) (h : s.length ≤ 100000000000000) : (lebT s).length ≤ s.length + 10 := by
  have := leb_ten s.length (by omega)
  unfold lebT; simp; omega

theorem octsPutText (bs s : List UInt8) (hl : bs.length ≤ 10000000000000) (hs : s.length ≤ 10000000000000) :
    AFun Try.prog 41 [byts bs, str s] [] (.own 0) [.own 1 ((bs ++ lebT s).map encB)] := by
  refine AFun.of_walk hP Try.func41 rfl rfl rfl (by simp) rfl ?_
  have e1 : IntKind.u64.wrap (s.length : Int) = s.length := IntWalk.u64_in _ (by omega)
  have h10 := leb_ten s.length (by omega)
  simp only [Try.f41, byts, str, bl_size, e1, am, simprocAttr, tys]
  refine ACall.of (octsPut bs s.length (by omega) (by omega)) [] [] rfl (by simp) (by simp) (by simp) (by repeat' (first | exact trivial | exact .inl rfl | exact .inr rfl | exact .inr ⟨rfl, by simp⟩ | exact .inr ⟨rfl, rfl, by simp⟩ | apply And.intro)) (by repeat' (first | exact trivial | rfl | exact (tkC_ren.1 _ _).symm | (simp; done) | apply And.intro)) (by first | exact .inl rfl | (refine .inr ⟨trivial, ?_⟩; first | (intro row h; rcases List.mem_singleton.1 h with rfl; exact nvB _) | (intro row h; cases h; done) | (simp; done)) | (refine .inr ⟨by simp [nvP, nvP.nvPs, nvD, nilS, errno], ?_⟩; first | (intro row h; rcases List.mem_singleton.1 h with rfl; exact nvB _) | (intro row h; cases h; done) | (simp [nvRow, nvD, nvP]; done))) ?_
  simp only [FinR, evRes, evRVs, evRV, am, simprocAttr, tys]
  refine ⟨by omega, ⟨_, [], [1], rfl, ⟨rfl, rfl, by simp, (fun i hi => absurd hi (Nat.not_lt_zero _)), trivial, ⟨.inr ⟨by decide, ?_⟩, trivial⟩, rfl, by decide, rfl, (by first | rfl | simp [scRow, tkC_scs])⟩, rfl, rfl⟩⟩
  simp only [lebT, List.map_append, List.append_assoc]; rfl

theorem refPutText (bs s : List UInt8) (hl : bs.length ≤ 10000000000000) (hs : s.length ≤ 10000000000000) :
    AFun Try.prog 44 [byts bs, str s] [] (.own 0) [.own 1 ((bs ++ lebT s).map encB)] := by
  refine AFun.of_walk hP Try.func44 rfl rfl rfl (by simp) rfl ?_
  have e1 : IntKind.u64.wrap (s.length : Int) = s.length := IntWalk.u64_in _ (by omega)
  have h10 := leb_ten s.length (by omega)
  simp only [Try.f44, byts, str, bl_size, e1, am, simprocAttr, tys]
  refine ACall.of (refPut bs s.length (by omega) (by omega)) [] [] rfl (by simp) (by simp) (by simp) (by repeat' (first | exact trivial | exact .inl rfl | exact .inr rfl | exact .inr ⟨rfl, by simp⟩ | exact .inr ⟨rfl, rfl, by simp⟩ | apply And.intro)) (by repeat' (first | exact trivial | rfl | exact (tkC_ren.1 _ _).symm | (simp; done) | apply And.intro)) (by first | exact .inl rfl | (refine .inr ⟨trivial, ?_⟩; first | (intro row h; rcases List.mem_singleton.1 h with rfl; exact nvB _) | (intro row h; cases h; done) | (simp; done)) | (refine .inr ⟨by simp [nvP, nvP.nvPs, nvD, nilS, errno], ?_⟩; first | (intro row h; rcases List.mem_singleton.1 h with rfl; exact nvB _) | (intro row h; cases h; done) | (simp [nvRow, nvD, nvP]; done))) ?_
  simp only [FinR, evRes, evRVs, evRV, am, simprocAttr, tys]
  refine ⟨by omega, ⟨_, [], [1], rfl, ⟨rfl, rfl, by simp, (fun i hi => absurd hi (Nat.not_lt_zero _)), trivial, ⟨.inr ⟨by decide, ?_⟩, trivial⟩, rfl, by decide, rfl, (by first | rfl | simp [scRow, tkC_scs])⟩, rfl, rfl⟩⟩
  simp only [lebT, List.map_append, List.append_assoc]; rfl

end Go.Proofs.Ytkadildabhkocaa
