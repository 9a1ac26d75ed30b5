/- Proved here: what functions of the program compute, and plain laws. No condition. -/
import Derived.Test.YtldckdbdgbpmpaaOf
import Derived.Test.YtldckdbdgbpmpaaBin
set_option linter.unusedSimpArgs false
set_option linter.unusedVariables false
namespace Go.Proofs.Ytldckdbdgbpmpaa
open Go Go.AM

theorem cloneD (l : List PtT) (hl : l.length ≤ 10000000000) : AFun Try.prog 25 [.d (.sl 2 (l.map encP))] [] (.d (.sl 2 (l.map encP))) [] := by
  rcases l with _ | ⟨x, l⟩
  · refine AFun.nil0 2 fun a cap => ?_
    rcases a with _ | a
    · exact AFun.weaken (cloneNil cap) trivial (fun rows β w X v h => nil_sl 2 rows β w X v h)
    · refine AFun.of_walk hP Try.func25 rfl rfl rfl (by simp) rfl ?_
      simp only [Try.f25, FinR, evRes, evRVs, evRV, am, simprocAttr, tys]
      exact ⟨_, [1], [], rfl, ⟨rfl, rfl, by simp, (fun i hi => absurd hi (Nat.not_lt_zero _)), trivial, trivial, rfl, by decide, rfl, (by first | rfl | (simp [scRow, tkC_scs]; done) | (simp [scRow, scB]; done))⟩, rfl, rfl⟩
  · have hlen : 0 < (x :: l).length := by simp
    refine AFun.of_walk hP Try.func25 rfl rfl rfl (by simp) rfl ?_
    generalize x :: l = y at *
    simp only [Try.f25, hlen, List.length_map, FinR, evRes, evRVs, evRV, am, simprocAttr, tys]
    exact ⟨by omega, ⟨_, [1], [], rfl, ⟨rfl, rfl, by simp, (fun i hi => absurd hi (Nat.not_lt_zero _)), trivial, trivial, rfl, by decide, rfl, (by first | rfl | (simp [scRow, tkC_scs]; done) | (simp [scRow, scB]; done))⟩, rfl, rfl⟩⟩
theorem lowN_le (l : List PtT) (t : Int) : lowN l t ≤ l.length := List.length_filter_le _ _
theorem lasts_len : ∀ l : List PtT, (lasts l).length ≤ l.length
  | [] => Nat.le_refl _
  | [x] => Nat.le_refl _
  | x :: y :: l => by
    have := lasts_len (y :: l)
    by_cases e : x.1 = y.1
    · rw [lasts_same e]; simp at this ⊢; omega
    · rw [lasts_ne e]; simp at this ⊢; omega
theorem ofP_len (l : List PtT) : (ofP l).length ≤ l.length := by
  have := lasts_len (sortP l)
  rw [sortP_len] at this
  exact this

set_option maxRecDepth 8000 in
theorem mergeSplit (l : List PtT) (t : Int) (hl : l.length ≤ 10000000000) :
    AFun Try.prog 19 [.d (.sl 2 (l.map encP)), int t] [] (.tup [.d (.sl 2 (((ofP l).take (lowN (ofP l) t)).map encP)), .d (.sl 2 (((ofP l).drop (lowN (ofP l) t)).map encP))]) [] := by
  refine AFun.of_walk hP Try.func19 rfl rfl rfl (by simp) rfl ?_
  have hol := ofP_len l
  have cO := mergeOf l hl
  have cB := binSearch (ofP l) t (ofP_rise l).srt (by omega)
  have hle := lowN_le (ofP l) t
  generalize ofP l = C at *
  have c1 := cloneD (C.take (lowN C t)) (by simp; omega)
  have c2 := cloneD (C.drop (lowN C t)) (by simp; omega)
  generalize lowN C t = i at *
  have h0 : (0 : Int) ≤ (i : Int) := by omega
  have h1 : (i : Int) ≤ ((C.length : Nat) : Int) := by omega
  simp only [int] at cB
  simp only [Try.f19, int, am, simprocAttr, tys]
  refine ACall.of (cO) [] [] rfl (by simp) (by simp) (by simp) (by repeat' (first | exact trivial | exact .inl rfl | exact .inr rfl | exact .inr ⟨rfl, rfl, rfl, by simp; done⟩ | exact .inr ⟨rfl, by simp; done⟩ | exact .inr ⟨rfl, rfl, by simp; done⟩ | apply And.intro)) (by repeat' (first | exact trivial | rfl | exact (tkC_ren.1 _ _).symm | (simp; done) | apply And.intro)) (by first | exact .inl rfl | (refine .inr ⟨trivial, ?_⟩; first | (intro row h; rcases List.mem_singleton.1 h with rfl; exact nvB _) | (intro row h; rcases List.mem_singleton.1 h with rfl; exact nvP2 _) | (intro row h; cases h; done) | (simp; done)) | (refine .inr ⟨by simp [nvP, nvP.nvPs, nvD, nilS, errno], ?_⟩; first | (intro row h; rcases List.mem_singleton.1 h with rfl; exact nvB _) | (intro row h; cases h; done) | (simp [nvRow, nvD, nvP]; done))) ?_
  simp only [am, simprocAttr, tys]
  refine ACall.of (cB) [] [] rfl (by simp) (by simp) (by simp) (by repeat' (first | exact trivial | exact .inl rfl | exact .inr rfl | exact .inr ⟨rfl, rfl, rfl, by simp; done⟩ | exact .inr ⟨rfl, by simp; done⟩ | exact .inr ⟨rfl, rfl, by simp; done⟩ | apply And.intro)) (by repeat' (first | exact trivial | rfl | exact (tkC_ren.1 _ _).symm | (simp; done) | apply And.intro)) (by first | exact .inl rfl | (refine .inr ⟨trivial, ?_⟩; first | (intro row h; rcases List.mem_singleton.1 h with rfl; exact nvB _) | (intro row h; rcases List.mem_singleton.1 h with rfl; exact nvP2 _) | (intro row h; cases h; done) | (simp; done)) | (refine .inr ⟨by simp [nvP, nvP.nvPs, nvD, nilS, errno], ?_⟩; first | (intro row h; rcases List.mem_singleton.1 h with rfl; exact nvB _) | (intro row h; cases h; done) | (simp [nvRow, nvD, nvP]; done))) ?_
  simp only [int, bool, h0, h1, Int.toNat_natCast, List.length_map, List.drop_zero, List.take_length, ← List.map_take, ← List.map_drop, am, simprocAttr, tys]
  refine ACallD.of (c1) (by kernel_rfl) [] [] rfl (by simp) (by simp) (by simp) (by simp) (by repeat' (first | exact trivial | exact .inl rfl | exact .inr rfl | exact .inr ⟨rfl, rfl, rfl, by simp; done⟩ | exact .inr ⟨rfl, by simp; done⟩ | exact .inr ⟨rfl, rfl, by simp; done⟩ | apply And.intro)) (by repeat' (first | exact trivial | rfl | exact (tkC_ren.1 _ _).symm | (simp; done) | apply And.intro)) (by first | exact .inl rfl | (refine .inr ⟨trivial, ?_⟩; first | (intro row h; rcases List.mem_singleton.1 h with rfl; exact nvB _) | (intro row h; rcases List.mem_singleton.1 h with rfl; exact nvP2 _) | (intro row h; cases h; done) | (simp; done)) | (refine .inr ⟨by simp [nvP, nvP.nvPs, nvD, nilS, errno], ?_⟩; first | (intro row h; rcases List.mem_singleton.1 h with rfl; exact nvB _) | (intro row h; cases h; done) | (simp [nvRow, nvD, nvP]; done))) rfl rfl rfl rfl ?_
  simp only [int, bool, h0, h1, Int.toNat_natCast, List.length_map, List.drop_zero, List.take_length, ← List.map_take, ← List.map_drop, am, simprocAttr, tys]
  refine ⟨Int.le_refl _, ?_⟩
  refine ACallD.of (c2) (by kernel_rfl) [] [] rfl (by simp) (by simp) (by simp) (by simp) (by repeat' (first | exact trivial | exact .inl rfl | exact .inr rfl | exact .inr ⟨rfl, rfl, rfl, by simp; done⟩ | exact .inr ⟨rfl, by simp; done⟩ | exact .inr ⟨rfl, rfl, by simp; done⟩ | apply And.intro)) (by repeat' (first | exact trivial | rfl | exact (tkC_ren.1 _ _).symm | (simp; done) | apply And.intro)) (by first | exact .inl rfl | (refine .inr ⟨trivial, ?_⟩; first | (intro row h; rcases List.mem_singleton.1 h with rfl; exact nvB _) | (intro row h; rcases List.mem_singleton.1 h with rfl; exact nvP2 _) | (intro row h; cases h; done) | (simp; done)) | (refine .inr ⟨by simp [nvP, nvP.nvPs, nvD, nilS, errno], ?_⟩; first | (intro row h; rcases List.mem_singleton.1 h with rfl; exact nvB _) | (intro row h; cases h; done) | (simp [nvRow, nvD, nvP]; done))) rfl rfl rfl rfl ?_
  simp only [FinR, evRes, evRVs, evRV, am, simprocAttr, tys]
  exact ⟨by kernel_rfl, ⟨_, [], [], rfl, Ent.plain rfl rfl rfl trivial rfl, rfl, rfl⟩⟩
end Go.Proofs.Ytldckdbdgbpmpaa
