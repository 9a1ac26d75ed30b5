/- Proved here: what functions of the program compute, and plain laws. No condition. -/
import Derived.Test.YtldckdbdgbpmpaaLaws10a
set_option linter.unusedSimpArgs false
set_option linter.unusedVariables false
namespace Go.Proofs.Ytldckdbdgbpmpaa
open Go Go.AM

/-! ## of each time the last value, in a map -/
abbrev MEnt := Int × Nat × Int
abbrev encM (e : MEnt) : MKey × Nat × PV := (.int .i64 e.1, e.2.1, .d (.lit (.int .i64 e.2.2)))
def lookM (k : Int) : List MEnt → Option Int
  | [] => none
  | e :: l => if e.1 = k then some e.2.2 else lookM k l
def setM (k : Int) (v : Int) (c : Nat) : List MEnt → List MEnt
  | [] => [(k, c, v)]
  | e :: l => if e.1 = k then (k, e.2.1, v) :: l else e :: setM k v c l
theorem mkInt (a b : Int) : (MKey.int .i64 a = MKey.int .i64 b) = (a = b) := by simp
theorem mget_M (k : Int) : ∀ E : List MEnt, mget (.int .i64 k) (E.map encM) = (lookM k E).map fun v => .d (.lit (.int .i64 v))
  | [] => rfl
  | e :: l => by
    simp only [List.map_cons, mget, lookM, mkInt]
    split
    · rfl
    · exact mget_M k l
theorem mset_M (k v : Int) (c : Nat) : ∀ E : List MEnt, mset (.int .i64 k) (.d (.lit (.int .i64 v))) c (E.map encM) = (setM k v c E).map encM
  | [] => rfl
  | e :: l => by
    simp only [List.map_cons, mset, setM, mkInt]
    split
    · rfl
    · rw [mset_M k v c l]; rfl
theorem lookM_set (k v : Int) (c : Nat) (q : Int) : ∀ E : List MEnt, lookM q (setM k v c E) = if k = q then some v else lookM q E
  | [] => by simp [setM, lookM]
  | e :: l => by
    unfold setM
    split
    · rename_i h
      subst h
      simp only [lookM]
      split <;> rfl
    · rename_i h
      simp only [lookM]
      rw [lookM_set k v c q l]
      by_cases h1 : e.1 = q
      · rw [if_pos h1, if_pos h1, if_neg (fun h2 => h (h1.trans h2.symm))]
      · rw [if_neg h1, if_neg h1]
theorem lookM_key {k : Int} : ∀ {E : List MEnt}, k ∈ E.map Prod.fst ↔ lookM k E ≠ none
  | [] => by simp [lookM]
  | e :: l => by
    simp only [List.map_cons, List.mem_cons, lookM]
    by_cases h : e.1 = k
    · rw [if_pos h]; simp [h]
    · rw [if_neg h, ← lookM_key]
      constructor
      · rintro (h1 | h1)
        · exact absurd h1.symm h
        · exact h1
      · exact .inr
theorem setM_keys (k v : Int) (c : Nat) : ∀ E : List MEnt, (setM k v c E).map Prod.fst = if k ∈ E.map Prod.fst then E.map Prod.fst else E.map Prod.fst ++ [k]
  | [] => by simp [setM]
  | e :: l => by
    unfold setM
    by_cases h : e.1 = k
    · rw [if_pos h]; simp [h]
    · rw [if_neg h, List.map_cons, List.map_cons, setM_keys k v c l]
      have : ¬ k = e.1 := fun h1 => h h1.symm
      by_cases h2 : k ∈ l.map Prod.fst
      · rw [if_pos h2, if_pos (List.mem_cons_of_mem _ h2)]
      · rw [if_neg h2, if_neg (by simp only [List.mem_cons]; rintro (h3 | h3); exact this h3; exact h2 h3)]; rfl
/-- what the map tells of points -/
def Told (E : List MEnt) (l : List PtT) : Prop := (E.map Prod.fst).Nodup ∧ ∀ k, lookM k E = (lastOf k l).map fun p => p.2.1
theorem Told.nil : Told [] [] := ⟨List.nodup_nil, fun k => rfl⟩
theorem Told.more {E : List MEnt} {l : List PtT} (h : Told E l) (p : PtT) (c : Nat) : Told (setM p.1 p.2.1 c E) (l ++ [p]) := by
  refine ⟨?_, fun k => ?_⟩
  · rw [setM_keys]
    split
    · exact h.1
    · rename_i hn
      exact List.nodup_append.2 ⟨h.1, by simp, fun a ha b hb e => by rw [List.mem_singleton.1 hb] at e; subst e; exact hn ha⟩
  · rw [lookM_set, h.2 k, lastOf_append, lastOf_one]
    by_cases e : p.1 = k
    · rw [if_pos e, if_pos e]; rfl
    · rw [if_neg e, if_neg e]; rfl
theorem Told.len {E : List MEnt} {l : List PtT} (h : Told E l) : (ofP l).length = E.length := by
  have h1 : ((ofP l).map Prod.fst).Nodup := List.pairwise_map.2 ((ofP_rise l).imp fun h => by omega)
  have hp : ((ofP l).map Prod.fst).Perm (E.map Prod.fst) := (List.perm_ext_iff_of_nodup h1 h.1).2 fun k => by
    rw [lookM_key, h.2 k, ← lastOf_ofP]
    constructor
    · intro hk
      obtain ⟨p, hp, rfl⟩ := List.mem_map.1 hk
      have := (ofP_mem (ofP l) p).1 (by rw [ofP_ofP]; exact hp)
      rw [this]; simp
    · intro hk
      rcases hq : lastOf k (ofP l) with _ | p
      · rw [hq] at hk; exact absurd rfl hk
      · unfold lastOf at hq
        have hm := List.mem_filter.1 (List.mem_of_getLast? hq)
        exact List.mem_map.2 ⟨p, hm.1, by simpa using hm.2⟩
  have := hp.length_eq
  simpa using this
theorem entM {rows : AM.Rows} {F : List Nat} {σ : Nat → Nat} {kd : MKd} {c : Nat} {E : List MEnt} : frzRow rows F (.map kd c (E.map encM)) = renRow σ (.map kd c (E.map encM)) := by
  simp only [frzRow, renRow, List.map_map]
  congr 1

set_option maxRecDepth 8000 in
theorem lawRises (ls : List (List PtT)) (hl : ls.length ≤ 9223372036854775807) (hx : ∀ l ∈ ls, l.length ≤ 9223372036854775807) :
    AFun Try.prog 5 [.d (.sl 1 (ls.map encS))] [] (bool true) [] := by
  refine AFun.of_walk hP Try.func5 rfl rfl rfl (by simp) rfl ?_
  have hs := some_len ls
  have cS := some10 ls hl hx
  have cA := mergeAll (someP ls) (by omega) (fun l hl => by have := hs.2 l hl; omega)
  have hfl := flat_len (someP ls) 200 hs.2
  have ho := ofP_len (someP ls).flatten
  have hM := ofP_mem (someP ls).flatten
  have cR := right04 (ofP (someP ls).flatten) (by omega) (ofP_rise _)
  have hLen := fun E h => Told.len (E := E) (l := (someP ls).flatten) h
  generalize someP ls = X at *
  simp only [Try.f5, am, simprocAttr, tys]
  refine ACall.of (shown10) [] [] rfl (by simp) (by simp) (by simp) (by repeat' (first | exact trivial | exact .inl rfl | exact .inr rfl | exact .inr ⟨rfl, rfl, rfl, by simp; done⟩ | exact .inr ⟨rfl, by simp; done⟩ | exact .inr ⟨rfl, rfl, by simp; done⟩ | apply And.intro)) (by repeat' (first | exact trivial | rfl | exact (tkC_ren.1 _ _).symm | (simp; done) | apply And.intro)) (by first | exact .inl rfl | (refine .inr ⟨trivial, ?_⟩; first | (intro row h; rcases List.mem_singleton.1 h with rfl; exact nvB _) | (intro row h; rcases List.mem_singleton.1 h with rfl; exact nvP2 _) | (intro row h; cases h; done) | (simp; done)) | (refine .inr ⟨by simp [nvP, nvP.nvPs, nvD, nilS, errno], ?_⟩; first | (intro row h; rcases List.mem_singleton.1 h with rfl; exact nvB _) | (intro row h; cases h; done) | (simp [nvRow, nvD, nvP]; done))) ?_
  simp only [bool, am, simprocAttr, tys]
  refine ACall.of (cS) [] [] rfl (by simp) (by simp) (by simp) (by repeat' (first | exact trivial | exact .inl rfl | exact .inr rfl | exact .inr ⟨rfl, rfl, rfl, by simp; done⟩ | exact .inr ⟨rfl, by simp; done⟩ | exact .inr ⟨rfl, rfl, by simp; done⟩ | apply And.intro)) (by repeat' (first | exact trivial | rfl | exact (tkC_ren.1 _ _).symm | (simp; done) | apply And.intro)) (by first | exact .inl rfl | (refine .inr ⟨trivial, ?_⟩; first | (intro row h; rcases List.mem_singleton.1 h with rfl; exact nvB _) | (intro row h; rcases List.mem_singleton.1 h with rfl; exact nvP2 _) | (intro row h; cases h; done) | (simp; done)) | (refine .inr ⟨by simp [nvP, nvP.nvPs, nvD, nilS, errno], ?_⟩; first | (intro row h; rcases List.mem_singleton.1 h with rfl; exact nvB _) | (intro row h; cases h; done) | (simp [nvRow, nvD, nvP]; done))) ?_
  simp only [List.length_map, am, simprocAttr, tys]
  refine ALoopW.intro 73 0 (ι := { z : Nat × Nat × List MEnt // z.1 ≤ X.length ∧ Told z.2.2 (X.take z.1).flatten }) (fun z => [(0, .d (.sl 1 (ls.map encS))), (3, bool true), (4, .mp 0), (17, .d (.sl 1 (X.map encS))), (18, int X.length), (19, int z.1.1)]) (fun z => [.map (.int .i64) z.1.2.1 (z.1.2.2.map encM)]) (fun z => X.length - z.1.1)
    ⟨(0, 0, []), Nat.zero_le _, Told.nil⟩ [] [0] ?_ (fun ⟨⟨i, c, E⟩, hi, hE⟩ => ?_)
  · exact ⟨rfl, rfl, by simp, (fun i hi => absurd hi (Nat.not_lt_zero _)), ⟨.inr rfl, .inr rfl, .inr rfl, .inr rfl, .inr rfl, .inr rfl, trivial⟩, ⟨.inr ⟨by decide, rfl⟩, trivial⟩, rfl, by decide, rfl, rfl⟩
  simp only at hi hE ⊢
  rcases Nat.lt_or_ge i X.length with hlt | hge
  · have hI : ((i : Int) < ((X.length : Nat) : Int)) := by omega
    have hb : X[i]? = some X[i] := List.getElem?_eq_getElem hlt
    have wi : IntKind.i64.wrap ((i : Int) + 1) = ((i + 1 : Nat) : Int) := by rw [IntWalk.i64_in _ (by omega)]; simp
    have htk : (X.take (i + 1)).flatten = (X.take i).flatten ++ X[i] := by
      have h : X.take (i + 1) = X.take i ++ [X[i]] := List.take_succ_eq_append_getElem hlt
      rw [h, List.flatten_append]; simp
    have hll := hs.2 _ (List.getElem_mem hlt)
    generalize X[i] = l at *
    simp only [int, bool, hI, hb, encS, List.length_map, Int.natCast_nonneg, Int.toNat_natCast, am, simprocAttr, tys]
    refine ALoopW.intro 73 0 (ι := { z : Nat × Nat × List MEnt // z.1 ≤ l.length ∧ Told z.2.2 ((X.take i).flatten ++ l.take z.1) }) (fun z => [(0, .d (.sl 1 (ls.map encS))), (3, bool true), (4, .mp 0), (17, .d (.sl 1 (X.map encS))), (18, int X.length), (19, int i), (23, .d (.sl 2 (l.map encP))), (24, int l.length), (25, int z.1.1)]) (fun z => [.map (.int .i64) z.1.2.1 (z.1.2.2.map encM)]) (fun z => l.length - z.1.1)
      ⟨(0, c, E), Nat.zero_le _, by simpa using hE⟩ [] [0] ?_ (fun ⟨⟨j, c, E⟩, hj, hE⟩ => ?_)
    · exact ⟨rfl, rfl, by simp, (fun i hi => absurd hi (Nat.not_lt_zero _)), ⟨.inr rfl, .inr rfl, .inr rfl, .inr rfl, .inr rfl, .inr rfl, .inr rfl, .inr rfl, .inr rfl, trivial⟩, ⟨.inr ⟨by decide, entM⟩, trivial⟩, rfl, by decide, rfl, by simp [scRow, scB]⟩
    simp only at hj hE ⊢
    rcases Nat.lt_or_ge j l.length with hlt | hge
    · have hJ : ((j : Int) < ((l.length : Nat) : Int)) := by omega
      have hb : l[j]? = some l[j] := List.getElem?_eq_getElem hlt
      have wj : IntKind.i64.wrap ((j : Int) + 1) = ((j + 1 : Nat) : Int) := by rw [IntWalk.i64_in _ (by omega)]; simp
      have htk2 : l.take (j + 1) = l.take j ++ [l[j]] := List.take_succ_eq_append_getElem hlt
      generalize l[j] = p at *
      have hE2 := hE.more p c
      rw [List.append_assoc, ← htk2] at hE2
      simp only [int, bool, hJ, hb, wj, encP, mset_M, List.length_map, Int.natCast_nonneg, Int.toNat_natCast, am, simprocAttr, tys]
      exact ⟨⟨(j + 1, _, setM p.1 p.2.1 c E), hlt, hE2⟩, [], [0], ⟨rfl, rfl, by simp, (fun i hi => absurd hi (Nat.not_lt_zero _)), ⟨.inr rfl, .inr rfl, .inr rfl, .inr rfl, .inr rfl, .inr rfl, .inr rfl, .inr rfl, .inr rfl, trivial⟩, ⟨.inr ⟨by decide, entM⟩, trivial⟩, rfl, by decide, rfl, by simp [scRow, scB]⟩, by show l.length - (j + 1) < l.length - j; omega⟩
    · have hJ : ¬ ((j : Int) < ((l.length : Nat) : Int)) := by omega
      rw [List.take_of_length_le hge, ← htk] at hE
      simp only [int, bool, hJ, wi, List.length_map, am, simprocAttr, tys]
      exact ⟨⟨(i + 1, c, E), hlt, hE⟩, [], [0], ⟨rfl, rfl, by simp, (fun i hi => absurd hi (Nat.not_lt_zero _)), ⟨.inr rfl, .inr rfl, .inr rfl, .inr rfl, .inr rfl, .inr rfl, trivial⟩, ⟨.inr ⟨by decide, entM⟩, trivial⟩, rfl, by decide, rfl, by simp [scRow, scB]⟩, by show X.length - (i + 1) < X.length - i; omega⟩
  · have hI : ¬ ((i : Int) < ((X.length : Nat) : Int)) := by omega
    rw [List.take_of_length_le hge] at hE
    have hLen := hLen E hE
    have hlk := hE.2
    have hM2 : ∀ p ∈ ofP X.flatten, mget (.int .i64 p.1) (E.map encM) = some (.d (.lit (.int .i64 p.2.1))) := fun p hp => by
      rw [mget_M, hlk p.1, (hM p).1 hp]; rfl
    generalize ofP X.flatten = C at *
    simp only [int, bool, hI, am, simprocAttr, tys]
    refine ACall.of (cS) [] [] rfl (by simp) (by simp) (by simp) (by repeat' (first | exact trivial | exact .inl rfl | exact .inr rfl | exact .inr ⟨rfl, rfl, rfl, by simp; done⟩ | exact .inr ⟨rfl, by simp; done⟩ | exact .inr ⟨rfl, rfl, by simp; done⟩ | apply And.intro)) (by repeat' (first | exact trivial | rfl | exact (tkC_ren.1 _ _).symm | (simp; done) | apply And.intro)) (by first | exact .inl rfl | (refine .inr ⟨trivial, ?_⟩; first | (intro row h; rcases List.mem_singleton.1 h with rfl; exact nvB _) | (intro row h; rcases List.mem_singleton.1 h with rfl; exact nvP2 _) | (intro row h; cases h; done) | (simp; done)) | (refine .inr ⟨by simp [nvP, nvP.nvPs, nvD, nilS, errno], ?_⟩; first | (intro row h; rcases List.mem_singleton.1 h with rfl; exact nvB _) | (intro row h; cases h; done) | (simp [nvRow, nvD, nvP]; done))) ?_
    simp only [am, simprocAttr, tys]
    refine ACall.of (cA) [] [] rfl (by simp) (by simp) (by simp) (by repeat' (first | exact trivial | exact .inl rfl | exact .inr rfl | exact .inr ⟨rfl, rfl, rfl, by simp; done⟩ | exact .inr ⟨rfl, by simp; done⟩ | exact .inr ⟨rfl, rfl, by simp; done⟩ | apply And.intro)) (by repeat' (first | exact trivial | rfl | exact (tkC_ren.1 _ _).symm | (simp; done) | apply And.intro)) (by first | exact .inl rfl | (refine .inr ⟨trivial, ?_⟩; first | (intro row h; rcases List.mem_singleton.1 h with rfl; exact nvB _) | (intro row h; rcases List.mem_singleton.1 h with rfl; exact nvP2 _) | (intro row h; cases h; done) | (simp; done)) | (refine .inr ⟨by simp [nvP, nvP.nvPs, nvD, nilS, errno], ?_⟩; first | (intro row h; rcases List.mem_singleton.1 h with rfl; exact nvB _) | (intro row h; cases h; done) | (simp [nvRow, nvD, nvP]; done))) ?_
    simp only [List.length_map, am, simprocAttr, tys]
    refine ALoopW.intro 73 0 (ι := { i : Nat // i ≤ C.length }) (fun i => [(3, bool true), (4, .mp 0), (9, .d (.sl 2 (C.map encP))), (39, .d (.sl 2 (C.map encP))), (40, int C.length), (41, int i.1)]) (fun _ => [.map (.int .i64) c (E.map encM)]) (fun i => C.length - i.1)
      ⟨0, Nat.zero_le _⟩ [] [0] ?_ (fun ⟨k, hk⟩ => ?_)
    · exact ⟨rfl, rfl, by simp, (fun i hi => absurd hi (Nat.not_lt_zero _)), ⟨.inr rfl, .inr rfl, .inr rfl, .inr rfl, .inr rfl, .inr rfl, trivial⟩, ⟨.inr ⟨by decide, entM⟩, trivial⟩, rfl, by decide, rfl, by simp [scRow, scB]⟩
    simp only at hk ⊢
    rcases Nat.lt_or_ge k C.length with hlt | hge
    · have hK : ((k : Int) < ((C.length : Nat) : Int)) := by omega
      have hb : C[k]? = some C[k] := List.getElem?_eq_getElem hlt
      have wk : IntKind.i64.wrap ((k : Int) + 1) = ((k + 1 : Nat) : Int) := by rw [IntWalk.i64_in _ (by omega)]; simp
      have hg := hM2 _ (List.getElem_mem hlt)
      generalize C[k] = p at *
      have hne : (p.2.1 != p.2.1) = false := bne_self_eq_false' _
      have hne' : (p.2.1 == p.2.1) = true := beq_self_eq_true _
      simp only [int, bool, hK, hb, wk, hg, hne, hne', encP, List.length_map, Int.natCast_nonneg, Int.toNat_natCast, am, simprocAttr, tys]
      exact ⟨⟨k + 1, hlt⟩, [], [0], ⟨rfl, rfl, by simp, (fun i hi => absurd hi (Nat.not_lt_zero _)), ⟨.inr rfl, .inr rfl, .inr rfl, .inr rfl, .inr rfl, .inr rfl, trivial⟩, ⟨.inr ⟨by decide, entM⟩, trivial⟩, rfl, by decide, rfl, by simp [scRow, scB]⟩, by show C.length - (k + 1) < C.length - k; omega⟩
    · have hK : ¬ ((k : Int) < ((C.length : Nat) : Int)) := by omega
      have hq : (((C.length : Nat) : Int) == ((E.length : Nat) : Int)) = true := by rw [beq_iff_eq]; omega
      simp only [int, bool, hK, am, simprocAttr, tys]
      refine ACall.of (cR) [] [] rfl (by simp) (by simp) (by simp) (by repeat' (first | exact trivial | exact .inl rfl | exact .inr rfl | exact .inr ⟨rfl, rfl, rfl, by simp; done⟩ | exact .inr ⟨rfl, by simp; done⟩ | exact .inr ⟨rfl, rfl, by simp; done⟩ | apply And.intro)) (by repeat' (first | exact trivial | rfl | exact (tkC_ren.1 _ _).symm | (simp; done) | apply And.intro)) (by first | exact .inl rfl | (refine .inr ⟨trivial, ?_⟩; first | (intro row h; rcases List.mem_singleton.1 h with rfl; exact nvB _) | (intro row h; rcases List.mem_singleton.1 h with rfl; exact nvP2 _) | (intro row h; cases h; done) | (simp; done)) | (refine .inr ⟨by simp [nvP, nvP.nvPs, nvD, nilS, errno], ?_⟩; first | (intro row h; rcases List.mem_singleton.1 h with rfl; exact nvB _) | (intro row h; cases h; done) | (simp [nvRow, nvD, nvP]; done))) ?_
      simp only [int, bool, hq, List.length_map, FinR, evRes, evRVs, evRV, am, simprocAttr, tys]
      exact ⟨_, [], [], rfl, Ent.plain rfl rfl rfl trivial rfl, rfl, rfl⟩
end Go.Proofs.Ytldckdbdgbpmpaa
