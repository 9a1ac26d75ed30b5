/- Proved here: what functions of the program compute, and plain laws. No condition. -/
import Derived.Test.YtkadildabhkocaaBase
set_option linter.unusedSimpArgs false
set_option linter.unusedVariables false
namespace Go.Proofs.Ytkadildabhkocaa
open Go Go.AM

/-! ## names -/
theorem decode_ascii (l : List UInt8) (i : Nat) (h : i < l.length) (hb : l[i].toNat < 128) : Utf8.decode ⟨⟨l⟩⟩ i = (l[i].toNat, 1) := by
  have e : (⟨⟨l⟩⟩ : ByteArray).get! (i + 0) = l[i] := by
    show (⟨l⟩ : Array UInt8).get!Internal i = _
    simp [Array.get!Internal, Array.getD, h]
  unfold Utf8.decode
  simp only [e]
  rw [if_pos hb]

theorem decode_high (l : List UInt8) (i : Nat) (h : i < l.length) (hb : 128 ≤ l[i].toNat) : 128 ≤ (Utf8.decode ⟨⟨l⟩⟩ i).1 := by
  have e : (⟨⟨l⟩⟩ : ByteArray).get! (i + 0) = l[i] := by
    show (⟨l⟩ : Array UInt8).get!Internal i = _
    simp [Array.get!Internal, Array.getD, h]
  have hr : 128 ≤ Utf8.runeError := by decide
  unfold Utf8.decode
  simp only [e]
  rw [if_neg (by omega)]
  repeat' split
  all_goals first | exact hr | (simp only [ge_iff_le] at *; first | omega | (rename_i hc; simp only [Bool.and_eq_true, decide_eq_true_eq] at hc; omega))

/-- a text any of whose bytes is one for which p; all above 127 are -/
theorem indexFunc (s : List UInt8) (p : Int → Bool) (f : Nat) (hl : s.length ≤ 9223372036854775807) (hf : isFn Try.prog f = true) (hp : ∀ c : Int, 128 ≤ c → p c = true)
    (hc : ∀ c : Int, 0 ≤ c → AFun Try.prog f [.d (.lit (.int .i32 c))] [] (bool (p c)) []) :
    ∃ k : Int, (decide (0 ≤ k) = s.any fun b => p b.toNat) ∧ AFun Try.prog 70 [str s, .clo (.func f) [] [], bool true] [] (int k) [] := by
  by_cases hany : ∃ i, ∃ h : i < s.length, p s[i].toNat = true ∧ ∀ j, (hj : j < i) → p (s[j]'(by omega)).toNat = false
  · obtain ⟨i0, h0, h1, h2⟩ := hany
    refine ⟨i0, ?_, ?_⟩
    · rw [show decide ((0 : Int) ≤ (i0 : Int)) = true from decide_eq_true (by omega), eq_comm, List.any_eq_true]
      exact ⟨s[i0], List.getElem_mem h0, h1⟩
    refine AFun.of_walk hP Try.func70 rfl rfl rfl (by simp) rfl ?_
    simp only [Try.f70, str, bool, am, simprocAttr, tys]
    refine ALoopW.intro 21 0 (ι := { i : Nat // i ≤ i0 }) (fun i => [(1, .clo (.func f) [] []), (2, .d (.lit (.bool true))), (10, .ptr 0 0)]) (fun i => [.iter ⟨⟨s⟩⟩ i.1]) (fun i => s.length - i.1) ⟨0, by omega⟩ [] [0] ?_ (fun ⟨i, hi⟩ => ?_)
    · exact ⟨rfl, rfl, by simp, (fun i hi => absurd hi (Nat.not_lt_zero _)), ⟨.inr rfl, .inr rfl, .inr rfl, trivial⟩, ⟨.inr ⟨by decide, rfl⟩, trivial⟩, rfl, by decide, rfl, (by first | rfl | simp [scRow, tkC_scs])⟩
    have hlt : i < s.length := by omega
    simp only [bl_size, hlt, hf, am, simprocAttr, tys]
    by_cases hie : i = i0
    · subst hie
      have hd : 0 ≤ ((Utf8.decode ⟨⟨s⟩⟩ i).1 : Int) := Int.natCast_nonneg _
      have hpd : p ((Utf8.decode ⟨⟨s⟩⟩ i).1 : Int) = true := by
        rcases Nat.lt_or_ge s[i].toNat 128 with hb | hb
        · rw [decode_ascii s i hlt hb]; exact h1
        · have := decode_high s i hlt hb
          exact hp _ (by omega)
      have hcc := hc _ hd
      rw [hpd] at hcc
      refine ACall.of (hcc) [] [] rfl (by simp) (by simp) (by simp) (by repeat' (first | exact trivial | exact .inl rfl | exact .inr rfl | exact .inr ⟨rfl, by simp⟩ | exact .inr ⟨rfl, rfl, by simp⟩ | apply And.intro)) (by repeat' (first | exact trivial | rfl | exact (tkC_ren.1 _ _).symm | (simp; done) | apply And.intro)) (by first | exact .inl rfl | (refine .inr ⟨trivial, ?_⟩; first | (intro row h; rcases List.mem_singleton.1 h with rfl; exact nvB _) | (intro row h; cases h; done) | (simp; done)) | (refine .inr ⟨by simp [nvP, nvP.nvPs, nvD, nilS, errno], ?_⟩; first | (intro row h; rcases List.mem_singleton.1 h with rfl; exact nvB _) | (intro row h; cases h; done) | (simp [nvRow, nvD, nvP]; done))) ?_
      simp only [bool, int, FinR, evRes, evRVs, evRV, am, simprocAttr, tys]
      exact ⟨_, [], [], rfl, Ent.plain rfl rfl rfl trivial rfl, rfl, rfl⟩
    · have hpf := h2 i (by omega)
      have hb : s[i].toNat < 128 := by
        rcases Nat.lt_or_ge s[i].toNat 128 with hb | hb
        · exact hb
        · rw [hp _ (by omega)] at hpf; cases hpf
      have hcc := hc (s[i].toNat : Int) (Int.natCast_nonneg _)
      rw [hpf] at hcc
      simp only [decode_ascii s i hlt hb, am, simprocAttr, tys]
      refine ACall.of (hcc) [] [] rfl (by simp) (by simp) (by simp) (by repeat' (first | exact trivial | exact .inl rfl | exact .inr rfl | exact .inr ⟨rfl, by simp⟩ | exact .inr ⟨rfl, rfl, by simp⟩ | apply And.intro)) (by repeat' (first | exact trivial | rfl | exact (tkC_ren.1 _ _).symm | (simp; done) | apply And.intro)) (by first | exact .inl rfl | (refine .inr ⟨trivial, ?_⟩; first | (intro row h; rcases List.mem_singleton.1 h with rfl; exact nvB _) | (intro row h; cases h; done) | (simp; done)) | (refine .inr ⟨by simp [nvP, nvP.nvPs, nvD, nilS, errno], ?_⟩; first | (intro row h; rcases List.mem_singleton.1 h with rfl; exact nvB _) | (intro row h; cases h; done) | (simp [nvRow, nvD, nvP]; done))) ?_
      simp only [bool, am, simprocAttr, tys]
      exact ⟨⟨i + 1, by omega⟩, [], [0], ⟨rfl, rfl, by simp, (fun i hi => absurd hi (Nat.not_lt_zero _)), ⟨.inr rfl, .inr rfl, .inr rfl, trivial⟩, ⟨.inr ⟨by decide, rfl⟩, trivial⟩, rfl, by decide, rfl, (by first | rfl | simp [scRow, tkC_scs])⟩, by show s.length - (i + 1) < s.length - i; omega⟩
  · have hall : ∀ i, (h : i < s.length) → p s[i].toNat = false := by
      intro i
      induction i using Nat.strongRecOn with
      | _ i ih =>
        intro h
        rcases hpi : p s[i].toNat with _ | _
        · rfl
        · exact absurd ⟨i, h, hpi, fun j hj => ih j hj (by omega)⟩ hany
    refine ⟨-1, ?_, ?_⟩
    · have : (s.any fun b => p b.toNat) = false := by
        rw [List.any_eq_false]
        intro x hx
        obtain ⟨i, h, rfl⟩ := List.getElem_of_mem hx
        simp [hall i h]
      rw [this]; rfl
    refine AFun.of_walk hP Try.func70 rfl rfl rfl (by simp) rfl ?_
    simp only [Try.f70, str, bool, am, simprocAttr, tys]
    refine ALoopW.intro 21 0 (ι := { i : Nat // i ≤ s.length }) (fun i => [(1, .clo (.func f) [] []), (2, .d (.lit (.bool true))), (10, .ptr 0 0)]) (fun i => [.iter ⟨⟨s⟩⟩ i.1]) (fun i => s.length - i.1) ⟨0, by omega⟩ [] [0] ?_ (fun ⟨i, hi⟩ => ?_)
    · exact ⟨rfl, rfl, by simp, (fun i hi => absurd hi (Nat.not_lt_zero _)), ⟨.inr rfl, .inr rfl, .inr rfl, trivial⟩, ⟨.inr ⟨by decide, rfl⟩, trivial⟩, rfl, by decide, rfl, (by first | rfl | simp [scRow, tkC_scs])⟩
    rcases Nat.lt_or_ge i s.length with hlt | hge
    · have hpf := hall i hlt
      have hb : s[i].toNat < 128 := by
        rcases Nat.lt_or_ge s[i].toNat 128 with hb | hb
        · exact hb
        · rw [hp _ (by omega)] at hpf; cases hpf
      have hcc := hc (s[i].toNat : Int) (Int.natCast_nonneg _)
      rw [hpf] at hcc
      simp only [bl_size, hlt, hf, decode_ascii s i hlt hb, am, simprocAttr, tys]
      refine ACall.of (hcc) [] [] rfl (by simp) (by simp) (by simp) (by repeat' (first | exact trivial | exact .inl rfl | exact .inr rfl | exact .inr ⟨rfl, by simp⟩ | exact .inr ⟨rfl, rfl, by simp⟩ | apply And.intro)) (by repeat' (first | exact trivial | rfl | exact (tkC_ren.1 _ _).symm | (simp; done) | apply And.intro)) (by first | exact .inl rfl | (refine .inr ⟨trivial, ?_⟩; first | (intro row h; rcases List.mem_singleton.1 h with rfl; exact nvB _) | (intro row h; cases h; done) | (simp; done)) | (refine .inr ⟨by simp [nvP, nvP.nvPs, nvD, nilS, errno], ?_⟩; first | (intro row h; rcases List.mem_singleton.1 h with rfl; exact nvB _) | (intro row h; cases h; done) | (simp [nvRow, nvD, nvP]; done))) ?_
      simp only [bool, am, simprocAttr, tys]
      exact ⟨⟨i + 1, by omega⟩, [], [0], ⟨rfl, rfl, by simp, (fun i hi => absurd hi (Nat.not_lt_zero _)), ⟨.inr rfl, .inr rfl, .inr rfl, trivial⟩, ⟨.inr ⟨by decide, rfl⟩, trivial⟩, rfl, by decide, rfl, (by first | rfl | simp [scRow, tkC_scs])⟩, by show s.length - (i + 1) < s.length - i; omega⟩
    · have hlt : ¬ i < s.length := by omega
      simp only [bl_size, hlt, int, FinR, evRes, evRVs, evRV, am, simprocAttr, tys]
      exact ⟨_, [], [], rfl, Ent.plain rfl rfl rfl trivial rfl, rfl, rfl⟩

theorem containsFunc (s : List UInt8) (p : Int → Bool) (f : Nat) (hl : s.length ≤ 9223372036854775807) (hf : isFn Try.prog f = true) (hp : ∀ c : Int, 128 ≤ c → p c = true)
    (hc : ∀ c : Int, 0 ≤ c → AFun Try.prog f [.d (.lit (.int .i32 c))] [] (bool (p c)) []) :
    AFun Try.prog 62 [str s, .clo (.func f) [] []] [] (bool (s.any fun b => p b.toNat)) [] := by
  obtain ⟨k, hk, h1⟩ := indexFunc s p f hl hf hp hc
  have h2 : AFun Try.prog 69 [str s, .clo (.func f) [] []] [] (int k) [] := by
    refine AFun.of_walk hP Try.func69 rfl rfl rfl (by simp) rfl ?_
    simp only [Try.f69, am, simprocAttr, tys]
    refine ACall.of (h1) [] [] rfl (by simp) (by simp) (by simp) (by repeat' (first | exact trivial | exact .inl rfl | exact .inr rfl | exact .inr ⟨rfl, by simp⟩ | exact .inr ⟨rfl, rfl, by simp⟩ | apply And.intro)) (by repeat' (first | exact trivial | rfl | exact (tkC_ren.1 _ _).symm | (simp; done) | apply And.intro)) (by first | exact .inl rfl | (refine .inr ⟨trivial, ?_⟩; first | (intro row h; rcases List.mem_singleton.1 h with rfl; exact nvB _) | (intro row h; cases h; done) | (simp; done)) | (refine .inr ⟨by simp [nvP, nvP.nvPs, nvD, nilS, errno], ?_⟩; first | (intro row h; rcases List.mem_singleton.1 h with rfl; exact nvB _) | (intro row h; cases h; done) | (simp [nvRow, nvD, nvP]; done))) ?_
    simp only [int, FinR, evRes, evRVs, evRV, am, simprocAttr, tys]
    exact ⟨_, [], [], rfl, Ent.plain rfl rfl rfl trivial rfl, rfl, rfl⟩
  refine AFun.of_walk hP Try.func62 rfl rfl rfl (by simp) rfl ?_
  simp only [Try.f62, am, simprocAttr, tys]
  refine ACall.of (h2) [] [] rfl (by simp) (by simp) (by simp) (by repeat' (first | exact trivial | exact .inl rfl | exact .inr rfl | exact .inr ⟨rfl, by simp⟩ | exact .inr ⟨rfl, rfl, by simp⟩ | apply And.intro)) (by repeat' (first | exact trivial | rfl | exact (tkC_ren.1 _ _).symm | (simp; done) | apply And.intro)) (by first | exact .inl rfl | (refine .inr ⟨trivial, ?_⟩; first | (intro row h; rcases List.mem_singleton.1 h with rfl; exact nvB _) | (intro row h; cases h; done) | (simp; done)) | (refine .inr ⟨by simp [nvP, nvP.nvPs, nvD, nilS, errno], ?_⟩; first | (intro row h; rcases List.mem_singleton.1 h with rfl; exact nvB _) | (intro row h; cases h; done) | (simp [nvRow, nvD, nvP]; done))) ?_
  simp only [int, hk, bool, FinR, evRes, evRVs, evRV, am, simprocAttr, tys]
  exact ⟨_, [], [], rfl, Ent.plain rfl rfl rfl trivial rfl, rfl, rfl⟩

def badR (c : Int) : Bool := (decide (c < 97) || decide (122 < c)) && (decide (c < 48) || decide (57 < c)) && c != 95
theorem badR_high (c : Int) (h : 128 ≤ c) : badR c = true := by
  unfold badR
  rw [show decide (122 < c) = true from decide_eq_true (by omega), show decide (57 < c) = true from decide_eq_true (by omega)]
  have : (c != 95) = true := by rw [bne_iff_ne]; omega
  rw [this]; simp
theorem name1 (c : Int) : AFun Try.prog 63 [.d (.lit (.int .i32 c))] [] (bool (badR c)) [] := by
  refine AFun.of_walk hP Try.func63 rfl rfl rfl (by simp) rfl ?_
  unfold badR
  rcases h1 : decide (c < 97) with _ | _ <;> rcases h2 : decide (122 < c) with _ | _ <;> rcases h3 : decide (c < 48) with _ | _ <;> rcases h4 : decide (57 < c) with _ | _ <;>
    (simp only [Try.f63, bool, h1, h2, h3, h4, FinR, evRes, evRVs, evRV, am, simprocAttr, tys]; exact ⟨_, [], [], rfl, Ent.plain rfl rfl rfl trivial rfl, rfl, rfl⟩)

/-- what may name a label -/
def letB (b : UInt8) : Bool := decide (97 ≤ b.toNat) && decide (b.toNat ≤ 122)
def nameOk (s : List UInt8) : Bool := decide (1 ≤ s.length) && decide (s.length ≤ 16) && letB (s.headD 0) && !(s.any fun b => badR b.toNat)

theorem within (s : List UInt8) (m : Int) (hl : s.length ≤ 9223372036854775807) : AFun Try.prog 47 [str s, int m] [] (bool (decide (1 ≤ s.length) && decide ((s.length : Int) ≤ m))) [] := by
  refine AFun.of_walk hP Try.func47 rfl rfl rfl (by simp) rfl ?_
  have e : decide (1 ≤ s.length) = decide ((1 : Int) ≤ s.length) := by rw [decide_eq_decide]; omega
  rw [e]
  rcases h1 : decide ((1 : Int) ≤ s.length) with _ | _ <;>
    (simp only [Try.f47, str, int, bool, bl_size, h1, FinR, evRes, evRVs, evRV, am, simprocAttr, tys]; exact ⟨_, [], [], rfl, Ent.plain rfl rfl rfl trivial rfl, rfl, rfl⟩)

theorem labelName (s : List UInt8) (hl : s.length ≤ 9223372036854775807) : AFun Try.prog 46 [str s] [] (bool (nameOk s)) [] := by
  refine AFun.of_walk hP Try.func46 rfl rfl rfl (by simp) rfl ?_
  have hw := within s 16 hl
  have e16 : decide ((s.length : Int) ≤ 16) = decide (s.length ≤ 16) := by rw [decide_eq_decide]; omega
  rw [e16] at hw
  simp only [Try.f46, str, am, simprocAttr, tys]
  refine ACall.of (hw) [] [] rfl (by simp) (by simp) (by simp) (by repeat' (first | exact trivial | exact .inl rfl | exact .inr rfl | exact .inr ⟨rfl, by simp⟩ | exact .inr ⟨rfl, rfl, by simp⟩ | apply And.intro)) (by repeat' (first | exact trivial | rfl | exact (tkC_ren.1 _ _).symm | (simp; done) | apply And.intro)) (by first | exact .inl rfl | (refine .inr ⟨trivial, ?_⟩; first | (intro row h; rcases List.mem_singleton.1 h with rfl; exact nvB _) | (intro row h; cases h; done) | (simp; done)) | (refine .inr ⟨by simp [nvP, nvP.nvPs, nvD, nilS, errno], ?_⟩; first | (intro row h; rcases List.mem_singleton.1 h with rfl; exact nvB _) | (intro row h; cases h; done) | (simp [nvRow, nvD, nvP]; done))) ?_
  unfold nameOk
  rcases hwb : (decide (1 ≤ s.length) && decide (s.length ≤ 16)) with _ | _
  · simp only [bool, FinR, evRes, evRVs, evRV, am, simprocAttr, tys]
    exact ⟨_, [], [], rfl, Ent.plain rfl rfl rfl trivial rfl, rfl, rfl⟩
  · have h1 : 1 ≤ s.length := by simp at hwb; omega
    obtain ⟨b, t, rfl⟩ : ∃ b t, s = b :: t := by cases s with | nil => simp at h1 | cons b t => exact ⟨b, t, rfl⟩
    have hlI : ((0 : Int) < ((t.length + 1 : Nat) : Int)) := by omega
    have hlet : letB b = (!(decide ((b.toNat : Int) < 97) || decide ((122 : Int) < b.toNat))) := by
      unfold letB
      rw [Bool.eq_iff_iff]
      simp
      omega
    simp only [List.headD_cons, hlet]
    rcases g1 : decide ((b.toNat : Int) < 97) with _ | _
    · rcases g2 : decide ((122 : Int) < (b.toNat : Int)) with _ | _
      · simp only [bool, bl_size, g1, g2, hlI, am, simprocAttr, tys]
        refine ACall.of (containsFunc (b :: t) badR 63 hl (by kernel_rfl) badR_high (fun c _ => name1 c)) [] [] rfl (by simp) (by simp) (by simp) (by repeat' (first | exact trivial | exact .inl rfl | exact .inr rfl | exact .inr ⟨rfl, by simp⟩ | exact .inr ⟨rfl, rfl, by simp⟩ | apply And.intro)) (by repeat' (first | exact trivial | rfl | exact (tkC_ren.1 _ _).symm | (simp; done) | apply And.intro)) (by first | exact .inl rfl | (refine .inr ⟨trivial, ?_⟩; first | (intro row h; rcases List.mem_singleton.1 h with rfl; exact nvB _) | (intro row h; cases h; done) | (simp; done)) | (refine .inr ⟨by simp [nvP, nvP.nvPs, nvD, nilS, errno], ?_⟩; first | (intro row h; rcases List.mem_singleton.1 h with rfl; exact nvB _) | (intro row h; cases h; done) | (simp [nvRow, nvD, nvP]; done))) ?_
        simp only [bool, FinR, evRes, evRVs, evRV, am, simprocAttr, tys]
        exact ⟨_, [], [], rfl, Ent.plain rfl rfl rfl trivial rfl, rfl, rfl⟩
      · simp only [bool, bl_size, g1, g2, hlI, FinR, evRes, evRVs, evRV, am, simprocAttr, tys]
        exact ⟨_, [], [], rfl, Ent.plain rfl rfl rfl trivial rfl, rfl, rfl⟩
    · simp only [bool, bl_size, g1, hlI, FinR, evRes, evRVs, evRV, am, simprocAttr, tys]
      exact ⟨_, [], [], rfl, Ent.plain rfl rfl rfl trivial rfl, rfl, rfl⟩
end Go.Proofs.Ytkadildabhkocaa
