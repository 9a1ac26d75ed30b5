/- Proved here: what functions of the program compute, and plain laws. No condition. -/
import Derived.Test.YtldckdbdgbpmpaaSymM
set_option linter.unusedSimpArgs false
set_option linter.unusedVariables false
namespace Go.Proofs.Ytldckdbdgbpmpaa
open Go Go.AM

def lowN (l : List PtT) (t : Int) : Nat := (l.filter fun x => decide (x.1 < t)).length
def fndN (l : List PtT) (t : Int) : Bool := match l[lowN l t]? with | some x => cmpN x.1 t == 0 | none => false
theorem lowN_at {l : List PtT} {t : Int} {i : Nat} (hi : i ≤ l.length) (h1 : ∀ z ∈ l.take i, z.1 < t) (h2 : ∀ z ∈ l.drop i, ¬ z.1 < t) : lowN l t = i := by
  unfold lowN
  conv => lhs; rw [← List.take_append_drop i l]
  rw [List.filter_append, List.filter_eq_self.2 (fun z hz => decide_eq_true (h1 z hz)), List.filter_eq_nil_iff.2 (fun z hz => by simpa using h2 z hz), List.append_nil, List.length_take]
  omega

set_option maxRecDepth 8000 in
set_option maxHeartbeats 2000000 in
theorem binSearch (l : List PtT) (t : Int) (hs : Srt l) (hl : l.length ≤ 10000000000) :
    AFun Try.prog 29 [.d (.sl 2 (l.map encP)), int t, .clo (.func 30) [] []] [] (.tup [int (lowN l t), bool (fndN l t)]) [] := by
  refine AFun.of_walk hP Try.func29 rfl rfl rfl (by simp) rfl ?_
  simp only [Try.f29, int, List.length_map, am, simprocAttr, tys]
  refine ALoopW.intro 49 0 (ι := { z : Nat × Nat // z.1 ≤ z.2 ∧ z.2 ≤ l.length ∧ (z.1 = 0 ∨ ∃ y, l[z.1 - 1]? = some y ∧ y.1 < t) ∧ (z.2 = l.length ∨ ∃ y, l[z.2]? = some y ∧ ¬ y.1 < t) })
    (fun z => [(0, .d (.sl 2 (l.map encP))), (1, int t), (2, .clo (.func 30) [] []), (8, int l.length), (9, int z.1.1), (10, int z.1.2)]) (fun _ => []) (fun z => z.1.2 - z.1.1)
    ⟨(0, l.length), by omega, by simp, .inl rfl, .inl rfl⟩ [] [] ?_ (fun ⟨⟨lo, hi⟩, h1, h2, h3, h4⟩ => ?_)
  · exact Ent.plain rfl rfl rfl (⟨.inr rfl, .inr rfl, .inr rfl, .inr rfl, .inr rfl, .inr rfl, trivial⟩) rfl
  simp only at h1 h2 h3 h4 ⊢
  rcases Nat.lt_or_ge lo hi with hlt | hge
  · have hI : ((lo : Int) < (hi : Int)) := by omega
    obtain ⟨w1, w2, w3⟩ := half_w lo hi (by omega)
    obtain ⟨c, hc⟩ : ∃ c, (lo + hi) / 2 = c := ⟨_, rfl⟩
    have hsh := shr1 (lo + hi)
    rw [hc] at w3 hsh
    have hc1 : lo ≤ c ∧ c < hi := by omega
    have hcB : c < l.length := by omega
    have hy : l[c]? = some l[c] := List.getElem?_eq_getElem hcB
    generalize l[c] = y at *
    have ch := split1 y t
    simp only [encP, int] at ch
    have w4 : IntKind.i64.wrap ((c : Int) + 1) = ((c + 1 : Nat) : Int) := by rw [IntWalk.i64_in _ (by omega)]; simp
    simp only [int, hI, w1, w2, w3, hsh, hy, encP, Int.natCast_nonneg, Int.toNat_natCast, am, simprocAttr, tys]
    refine ACall.of (ch) [] [] rfl (by simp) (by simp) (by simp) (by repeat' (first | exact trivial | exact .inl rfl | exact .inr rfl | exact .inr ⟨rfl, rfl, rfl, by simp; done⟩ | exact .inr ⟨rfl, by simp; done⟩ | exact .inr ⟨rfl, rfl, by simp; done⟩ | apply And.intro)) (by repeat' (first | exact trivial | rfl | exact (tkC_ren.1 _ _).symm | (simp; done) | apply And.intro)) (by first | exact .inl rfl | (refine .inr ⟨trivial, ?_⟩; first | (intro row h; rcases List.mem_singleton.1 h with rfl; exact nvB _) | (intro row h; rcases List.mem_singleton.1 h with rfl; exact nvP2 _) | (intro row h; cases h; done) | (simp; done)) | (refine .inr ⟨by simp [nvP, nvP.nvPs, nvD, nilS, errno], ?_⟩; first | (intro row h; rcases List.mem_singleton.1 h with rfl; exact nvB _) | (intro row h; cases h; done) | (simp [nvRow, nvD, nvP]; done))) ?_
    by_cases hlt2 : y.1 < t
    · have hn := cmpN_neg hlt2
      simp only [int, hn, w4, am, simprocAttr, tys]
      exact ⟨⟨(c + 1, hi), by omega, h2, .inr ⟨y, by simpa using hy, hlt2⟩, h4⟩, [], [], Ent.plain rfl rfl rfl (⟨.inr rfl, .inr rfl, .inr rfl, .inr rfl, .inr rfl, .inr rfl, trivial⟩) rfl, by show hi - (c + 1) < hi - lo; omega⟩
    · have hn := cmpN_pos hlt2
      simp only [int, hn, am, simprocAttr, tys]
      exact ⟨⟨(lo, c), by omega, by omega, h3, .inr ⟨y, hy, hlt2⟩⟩, [], [], Ent.plain rfl rfl rfl (⟨.inr rfl, .inr rfl, .inr rfl, .inr rfl, .inr rfl, .inr rfl, trivial⟩) rfl, by show c - lo < hi - lo; omega⟩
  · have hI : ¬ ((lo : Int) < (hi : Int)) := by omega
    obtain rfl : lo = hi := by omega
    have hlow : lowN l t = lo := by
      refine lowN_at h2 (fun z hz => ?_) (fun z hz => ?_)
      · rcases h3 with rfl | ⟨y, hy, hyx⟩
        · simp at hz
        · by_cases h0 : lo = 0
          · subst h0; simp at hz
          · have := take_le hs (by omega) hy z hz; omega
      · rcases h4 with rfl | ⟨y, hy, hyx⟩
        · simp at hz
        · have := drop_ge hs hy z hz; omega
    have hf : fndN l t = match l[lo]? with | some x => cmpN x.1 t == 0 | none => false := by unfold fndN; rw [hlow]
    rw [hlow, hf]
    clear hlow hf h3 h4
    rcases Nat.lt_or_ge lo l.length with hlt3 | hge3
    · have hI3 : ((lo : Int) < ((l.length : Nat) : Int)) := by omega
      have hy : l[lo]? = some l[lo] := List.getElem?_eq_getElem hlt3
      generalize l[lo] = y at *
      have ch := split1 y t
      simp only [encP, int] at ch
      simp only [int, hI, hI3, hy, encP, Int.natCast_nonneg, Int.toNat_natCast, am, simprocAttr, tys]
      refine ACall.of (ch) [] [] rfl (by simp) (by simp) (by simp) (by repeat' (first | exact trivial | exact .inl rfl | exact .inr rfl | exact .inr ⟨rfl, rfl, rfl, by simp; done⟩ | exact .inr ⟨rfl, by simp; done⟩ | exact .inr ⟨rfl, rfl, by simp; done⟩ | apply And.intro)) (by repeat' (first | exact trivial | rfl | exact (tkC_ren.1 _ _).symm | (simp; done) | apply And.intro)) (by first | exact .inl rfl | (refine .inr ⟨trivial, ?_⟩; first | (intro row h; rcases List.mem_singleton.1 h with rfl; exact nvB _) | (intro row h; rcases List.mem_singleton.1 h with rfl; exact nvP2 _) | (intro row h; cases h; done) | (simp; done)) | (refine .inr ⟨by simp [nvP, nvP.nvPs, nvD, nilS, errno], ?_⟩; first | (intro row h; rcases List.mem_singleton.1 h with rfl; exact nvB _) | (intro row h; cases h; done) | (simp [nvRow, nvD, nvP]; done))) ?_
      simp only [int, bool, FinR, evRes, evRVs, evRV, am, simprocAttr, tys]
      exact ⟨_, [], [], rfl, Ent.plain rfl rfl rfl trivial rfl, rfl, rfl⟩
    · have hI3 : ¬ ((lo : Int) < ((l.length : Nat) : Int)) := by omega
      have hy : l[lo]? = none := List.getElem?_eq_none hge3
      simp only [int, bool, hI, hI3, hy, FinR, evRes, evRVs, evRV, am, simprocAttr, tys]
      exact ⟨_, [], [], rfl, Ent.plain rfl rfl rfl trivial rfl, rfl, rfl⟩
end Go.Proofs.Ytldckdbdgbpmpaa
