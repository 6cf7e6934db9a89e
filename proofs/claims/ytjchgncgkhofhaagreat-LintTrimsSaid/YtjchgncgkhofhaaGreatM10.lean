/- The program's functions in abstract words: a clause's terms. -/
import Derived.Test.YtjchgncgkhofhaaGreatM9
set_option linter.unusedVariables false
namespace Go.Proofs.YtjchgncgkhofhaaGreat.AL
open Go
attribute [local irreducible] PlainFn CallOk

theorem okc_flat {α : Type} {g : α → List AV} (hg : ∀ x, (g x).all okc = true) (l : List α) : (l.flatMap g).all okc = true := by
  induction l with
  | nil => rfl
  | cons x l ih => rw [List.flatMap_cons, List.all_append, hg, ih]; rfl
def vTo (l : List Tm) : AV := .vec true 4 l.length (l.flatMap cT)
theorem vTo_app (a b : List Tm) : vTo (a ++ b) = .vec true 4 (a.length + b.length) (a.flatMap cT ++ b.flatMap cT) := by
  simp [vTo]
theorem vTo_nil (a : List Tm) : vTo a = .vec true 4 (0 + a.length) ([] ++ a.flatMap cT) := by rw [Nat.zero_add]; rfl
theorem okc_T (l : List Tm) : (l.flatMap cT).all okc = true := okc_flat (fun _ => rfl) l
theorem ok71 (l : List Tm) (hl : l.length ≤ 1000000) : POk 71 [vT l] (vTo l) := by
  refine POk.of_v ?_ (nrL_flat (fun _ => rfl) _)
  refine fn_ok mixed (En_ok _ _ _ _) (pl := fun _ => []) (fn := Go.Proofs.Tryz.f71) (c := _) (by kernel_rfl) rfl (by decide) (by kernel_rfl) (E := E0) ?_
  conv => whnf
  refine ⟨fun h0 => ?_, ?_⟩
  · cases l with
    | cons x r => cases h0
    | nil =>
      conv => whnf
      exact avle_nil _ _
  · conv => whnf
    refine ⟨⟨by omega, by show (0 + l.length) * 40 ≤ _; omega, okc_T l⟩, ?_⟩
    conv => whnf
    refine avle_eq ?_
    show AV.vec true 4 l.length (l.flatMap cT) = AV.vec true 4 (0 + l.length) ([] ++ l.flatMap cT)
    rw [Nat.zero_add]; rfl
def allT (c : Cl) : List Tm := c.head.args ++ c.body.flatMap termsL
theorem flat_drop {α β : Type} (g : α → List β) (l : List α) (i : Nat) (h : i < l.length) : (l.drop i).flatMap g = g l[i] ++ (l.drop (i + 1)).flatMap g := by
  rw [List.drop_eq_getElem_cons h]; rfl
theorem ok48 (c : Cl) (hl : (allT c).length ≤ 1000000) (hb : c.body.length ≤ 9223372036854775807) : POk 48 [aCl c] (vT (allT c)) := by
  refine POk.of_v ?_ (nrL_flat (fun _ => rfl) _)
  refine fn_ok mixed (En_ok _ _ _ _) (pl := fun _ => []) (fn := Go.Proofs.Tryz.f48) (c := _) (by kernel_rfl) rfl (by decide) (by kernel_rfl) (E := E0) ?_
  have hl0 : c.head.args.length ≤ 1000000 := by simp only [allT, List.length_append] at hl; omega
  conv => whnf
  refine use_pure (ok71 c.head.args hl0) (nr1 (nr_vT _)) ⟨rfl, ?_⟩
  conv => whnf
  refine ⟨{ p : Nat × List Tm // allT c = p.2 ++ (c.body.drop p.1).flatMap termsL }, fun p => St [(3, vTo p.1.2), (11, vL c.body), (12, .sc (.int .i64 c.body.length)), (13, .sc (.int .i64 p.1.1))] [] [], fun p => c.body.length - p.1.1, ⟨(0, c.head.args), rfl⟩, ?_, ?_⟩
  · exact wk_of ⟨avle_refl _, avle_refl _, avle_refl _, avle_refl _, trivial⟩ trivial rfl ⟨trivial, trivial, trivial, trivial, trivial⟩
  rintro ⟨⟨i, ts⟩, hinv⟩
  simp only at hinv
  conv => whnf
  split
  · rename_i hlt
    have hlt : i < c.body.length := by simpa using hlt
    have hwrap : IntKind.i64.wrap ((i : Int) + 1) = ((i + 1 : Nat) : Int) := (wrap_small _ (by omega) (by omega)).trans (by omega)
    rw [flat_drop _ _ _ hlt, ← List.append_assoc] at hinv
    have htk := take_cells (g := cL) (n := 14) (fun _ => rfl) c.body i hlt
    have hir : (0 : Int) ≤ (i : Int) ∧ (i : Int) < c.body.length := ⟨Int.natCast_nonneg _, Int.ofNat_lt.2 hlt⟩
    generalize c.body[i] = m at hinv htk
    have hlen : ts.length + (termsL m).length ≤ 1000000 := by
      rw [hinv] at hl; simp only [List.length_append] at hl; omega
    conv => whnf
    refine ⟨hir, _, htk, ?_⟩
    conv => whnf
    refine use_pure (ok68 m) (nr1 (nr_aL _)) ⟨rfl, ?_⟩
    conv => whnf
    refine ⟨⟨by show ts.length + (termsL m).length ≤ _; omega, by show (ts.length + (termsL m).length) * 40 ≤ _; omega, okc_T _⟩, ?_⟩
    conv => whnf
    exact ⟨⟨(i + 1, ts ++ termsL m), hinv⟩, wk_of ⟨avle_eq (vTo_app _ _), avle_refl _, avle_refl _, avle_int hwrap, trivial⟩ trivial rfl ⟨trivial, trivial, trivial, trivial, trivial⟩, Nat.sub_lt_sub_left hlt (Nat.lt_succ_self i)⟩
  · rename_i hlt
    have hlt : c.body.length ≤ i := by simpa using hlt
    rw [List.drop_of_length_le hlt] at hinv
    have hinv : allT c = ts := by rw [hinv]; simp
    have hres : avle (.vec false 4 ts.length (ts.flatMap cT)) (vT (allT c)) := by rw [hinv]; exact avle_refl _
    conv => whnf
    exact hres
theorem ok34 (c : Cl) (hl : (allT c).length ≤ 1000000) (hb : c.body.length ≤ 9223372036854775807) : POk 34 [aCl c] (vT (allT c)) := by
  refine POk.of_v ?_ (nrL_flat (fun _ => rfl) _)
  refine fn_ok mixed (En_ok _ _ _ _) (pl := fun _ => []) (fn := Go.Proofs.Tryz.f34) (c := _) (by kernel_rfl) rfl (by decide) (by kernel_rfl) (E := E0) ?_
  have hl0 : c.head.args.length ≤ 1000000 := by simp only [allT, List.length_append] at hl; omega
  conv => whnf
  refine ⟨⟨by omega, by show (0 + c.head.args.length) * 40 ≤ _; omega, okc_T _⟩, ?_⟩
  conv => whnf
  refine ⟨{ p : Nat × List Tm // allT c = p.2 ++ (c.body.drop p.1).flatMap termsL }, fun p => St [(1, .pp (.loc 1) 0), (3, vTo p.1.2), (4, .sc (.int .i64 p.1.1))] [(1, .cells 0 (cC c))] [], fun p => c.body.length - p.1.1, ⟨(0, c.head.args), rfl⟩, ?_, ?_⟩
  · exact wk_of ⟨avle_refl _, avle_eq (vTo_nil _), avle_refl _, trivial⟩ ⟨oble_refl _, trivial⟩ rfl ⟨trivial, trivial, trivial, trivial⟩
  rintro ⟨⟨i, ts⟩, hinv⟩
  simp only at hinv
  conv => whnf
  split
  · rename_i hlt
    have hlt : i < c.body.length := by simpa using hlt
    have hwrap : IntKind.i64.wrap ((i : Int) + 1) = ((i + 1 : Nat) : Int) := (wrap_small _ (by omega) (by omega)).trans (by omega)
    rw [flat_drop _ _ _ hlt, ← List.append_assoc] at hinv
    have htk := take_cells (g := cL) (n := 14) (fun _ => rfl) c.body i hlt
    have hir : (0 : Int) ≤ (i : Int) ∧ (i : Int) < c.body.length := ⟨Int.natCast_nonneg _, Int.ofNat_lt.2 hlt⟩
    generalize c.body[i] = m at hinv htk
    have hlen : ts.length + (termsL m).length ≤ 1000000 := by
      rw [hinv] at hl; simp only [List.length_append] at hl; omega
    conv => whnf
    refine ⟨hir, _, htk, ?_⟩
    conv => whnf
    split
    · rename_i e
      have e : decide (m.kind = 3) = true := e
      have e2 : termsL m = [m.left, m.right] := by simp at e; simp [termsL, e]
      rw [e2] at hlen hinv
      conv => whnf
      refine ⟨⟨by simp at hlen; show ts.length + 2 ≤ _; omega, by simp at hlen; show (ts.length + 2) * 40 ≤ _; omega, rfl⟩, ?_⟩
      conv => whnf
      exact ⟨⟨(i + 1, ts ++ [m.left, m.right]), hinv⟩, wk_of ⟨avle_refl _, avle_eq (vTo_app _ _), avle_int hwrap, trivial⟩ ⟨oble_refl _, trivial⟩ rfl ⟨trivial, trivial, trivial, trivial⟩, Nat.sub_lt_sub_left hlt (Nat.lt_succ_self i)⟩
    · rename_i e
      have e : decide (m.kind = 3) = false := e
      have e2 : termsL m = m.atom.args := by simp at e; simp [termsL, e]
      rw [e2] at hlen hinv
      conv => whnf
      refine ⟨⟨by show ts.length + m.atom.args.length ≤ _; omega, by show (ts.length + m.atom.args.length) * 40 ≤ _; omega, okc_T _⟩, ?_⟩
      conv => whnf
      exact ⟨⟨(i + 1, ts ++ m.atom.args), hinv⟩, wk_of ⟨avle_refl _, avle_eq (vTo_app _ _), avle_int hwrap, trivial⟩ ⟨oble_refl _, trivial⟩ rfl ⟨trivial, trivial, trivial, trivial⟩, Nat.sub_lt_sub_left hlt (Nat.lt_succ_self i)⟩
  · rename_i hlt
    have hlt : c.body.length ≤ i := by simpa using hlt
    rw [List.drop_of_length_le hlt] at hinv
    have hinv : allT c = ts := by rw [hinv]; simp
    have hres : avle (.vec false 4 ts.length (ts.flatMap cT)) (vT (allT c)) := by rw [hinv]; exact avle_refl _
    conv => whnf
    exact hres
end Go.Proofs.YtjchgncgkhofhaaGreat.AL
/- The program's functions in abstract words: maps from names to numbers; variables that stand once (lint). -/
set_option linter.unusedVariables false
namespace Go.Proofs.YtjchgncgkhofhaaGreat.AL
open Go
attribute [local irreducible] PlainFn CallOk

/-! ### Maps from names to numbers -/
abbrev NM := List (ByteArray × Int)
def getM (m : NM) (s : ByteArray) : Int := match m with
  | [] => 0
  | (k, v) :: r => if s = k then v else getM r s
def setM (m : NM) (s : ByteArray) (v : Int) : NM := match m with
  | [] => [(s, v)]
  | (k, w) :: r => if s = k then (s, v) :: r else (k, w) :: setM r s v
theorem get_set (m : NM) (s : ByteArray) (v : Int) (t : ByteArray) : getM (setM m s v) t = if t = s then v else getM m t := by
  induction m with
  | nil => simp [setM, getM]
  | cons p r ih =>
    obtain ⟨k, w⟩ := p
    unfold setM
    split
    · rename_i h; subst h
      by_cases e : t = s
      · simp [getM, e]
      · simp [getM, e]
    · rename_i h
      simp only [getM]
      split
      · rename_i h2
        have : t ≠ s := fun e => h (by rw [← e, h2])
        simp [this]
      · exact ih
def cM (m : NM) : List (AV × AV) := m.map fun p => (.sc (.string p.1), .sc (.int .i64 p.2))
theorem eq_str {E : Env} {k : Nat} (hk : (E.T k).ty = .str) (a b : ByteArray) : (avEq E k (.sc (.string a)) (.sc (.string b)) == some true) = decide (a = b) := by
  unfold avEq
  simp only [hk, fkEq]
  cases decide (a = b) <;> rfl
theorem keys_cM {E : Env} {k : Nat} (hk : (E.T k).ty = .str) (m : NM) : ∀ p ∈ cM m, keyOk E k p.1 = true := by
  intro p hp
  obtain ⟨q, _, rfl⟩ := List.mem_map.1 hp
  unfold keyOk
  simp only [hk]; rfl
theorem upd_cM {E : Env} {k : Nat} (hk : (E.T k).ty = .str) (m : NM) (s : ByteArray) (v : Int) : (match (cM m).findIdx? fun p => avEq E k (.sc (.string s)) p.1 == some true with
          | some i => (cM m).set i (.sc (.string s), dm (.sc (.int .i64 v)))
          | none => cM m ++ [(.sc (.string s), dm (.sc (.int .i64 v)))]) = cM (setM m s v) := by
  induction m with
  | nil => rfl
  | cons p r ih =>
    obtain ⟨k', w⟩ := p
    have : cM ((k', w) :: r) = (.sc (.string k'), .sc (.int .i64 w)) :: cM r := rfl
    rw [this, List.findIdx?_cons, eq_str hk]
    by_cases e : s = k'
    · subst e; rw [decide_eq_true rfl]; simp only [setM, if_true]; rfl
    · rw [decide_eq_false e]
      simp only [setM, if_neg e]
      generalize hq : (List.findIdx? (fun p => avEq E k (AV.sc (Value.string s)) p.fst == some true) (cM r)) = q at ih ⊢
      have hc : cM ((k', w) :: setM r s v) = (.sc (.string k'), .sc (.int .i64 w)) :: cM (setM r s v) := rfl
      rw [hc, ← ih]
      cases q with
      | none => rfl
      | some i => rfl
def hasM (m : NM) (s : ByteArray) : Bool := match m with
  | [] => false
  | (k, _) :: r => if s = k then true else hasM r s
theorem get_cM {E : Env} {k : Nat} (hk : (E.T k).ty = .str) (m : NM) (s : ByteArray) : (match (cM m).find? fun p => avEq E k (.sc (.string s)) p.1 == some true with
          | some p => (dm p.2, true)
          | none => (AV.sc (.int .i64 0), false)) = (.sc (.int .i64 (getM m s)), hasM m s) := by
  induction m with
  | nil => rfl
  | cons p r ih =>
    obtain ⟨k', w⟩ := p
    have : cM ((k', w) :: r) = (.sc (.string k'), .sc (.int .i64 w)) :: cM r := rfl
    rw [this, List.find?_cons, eq_str hk]
    by_cases e : s = k'
    · rw [decide_eq_true e]; simp only [getM, hasM, if_pos e]; rfl
    · rw [decide_eq_false e]; simp only [getM, hasM, if_neg e]; exact ih
theorem oble_map {es es' : List (AV × AV)} (h : es' = es) : oble (.map es) (.map es') := h

/-! ### Findings -/
structure Fd where
  kind : Int
  clause : Int
  other : Int
  off : Int
  name : ByteArray
  deriving DecidableEq
def cF (f : Fd) : List AV := [.sc (.int .i64 f.kind), .sc (.int .i64 f.clause), .sc (.int .i64 f.other), .sc (.int .i64 f.off), .sc (.string f.name)]
def vF (l : List Fd) : AV := .vec false 5 l.length (l.flatMap cF)
def vFo (l : List Fd) : AV := .vec true 5 l.length (l.flatMap cF)
theorem nr_vF (l : List Fd) : nr (vF l) = true := nrL_flat (fun _ => rfl) l
theorem vFo_app (a b : List Fd) : vFo (a ++ b) = .vec true 5 (a.length + b.length) (a.flatMap cF ++ b.flatMap cF) := by
  simp [vFo]
theorem okc_F (l : List Fd) : (l.flatMap cF).all okc = true := okc_flat (fun _ => rfl) l
/-- How often a name stands among terms, as a variable. -/
def countV (ts : List Tm) (s : ByteArray) : Nat := (ts.filter fun u => isVar u && decide (u.text = s)).length
def onceT (ts : List Tm) (t : Tm) : Bool := isVar t && !decide (headB t.text = 95) && decide (countV ts t.text = 1)
def singF (ts : List Tm) (n : Int) (t : Tm) : List Fd := if onceT ts t = true then [⟨4, n, -1, t.off, t.text⟩] else []
def singP (ts : List Tm) (n : Int) : List Fd := ts.flatMap (singF ts n)
theorem countV_drop (ts : List Tm) (i : Nat) (h : i < ts.length) (s : ByteArray) : countV (ts.drop i) s = (if (isVar ts[i] && decide (ts[i].text = s)) = true then 1 else 0) + countV (ts.drop (i + 1)) s := by
  rw [List.drop_eq_getElem_cons h]
  unfold countV
  rw [List.filter_cons]
  split
  · rw [List.length_cons]; omega
  · omega
theorem countV_mono (ts : List Tm) (i : Nat) (s : ByteArray) : countV (ts.drop i) s ≤ countV ts s := ((List.drop_sublist i ts).filter _).length_le
theorem countV_le (ts : List Tm) (s : ByteArray) : countV ts s ≤ ts.length := List.length_filter_le _ _
set_option maxHeartbeats 1000000 in
theorem ok22 (c : Cl) (n : Int) (hl : (allT c).length ≤ 1000000) (hb : c.body.length ≤ 9223372036854775807) (hv : ∀ t ∈ allT c, isVar t = true → 1 ≤ t.text.size) : POk 22 [aCl c, .sc (.int .i64 n)] (vF (singP (allT c) n)) := by
  refine POk.of_v ?_ (nrL_flat (fun _ => rfl) _)
  refine fn_ok mixed (En_ok _ _ _ _) (pl := fun _ => []) (fn := Go.Proofs.Tryz.f22) (c := _) (by kernel_rfl) rfl (by decide) (by kernel_rfl) (E := E0) ?_
  conv => whnf
  refine use_pure (ok48 c hl hb) (nr1 (nr_aCl _)) ⟨rfl, ?_⟩
  conv => whnf
  generalize hts : allT c = ts at *
  refine ⟨{ p : Nat × NM // ∀ s, (countV ts s : Int) = getM p.2 s + countV (ts.drop p.1) s }, fun p => St [(1, .sc (.int .i64 n)), (2, .pp (.loc 2) 0), (5, .mp (.loc 11)), (13, vT ts), (14, .sc (.int .i64 ts.length)), (15, .sc (.int .i64 p.1.1))] [(2, .cells 0 (cC c)), (11, .map (cM p.1.2))] [], fun p => ts.length - p.1.1, ⟨(0, []), fun s => by simp [getM]⟩, ?_, ?_⟩
  · exact wk_of ⟨avle_refl _, avle_refl _, avle_refl _, avle_refl _, avle_refl _, avle_refl _, trivial⟩ ⟨oble_refl _, oble_map rfl, trivial⟩ rfl ⟨trivial, trivial, trivial, trivial, trivial, trivial, trivial⟩
  rintro ⟨⟨i, m⟩, hinv⟩
  simp only at hinv
  conv => whnf
  split
  · rename_i hlt
    have hlt : i < ts.length := by simpa using hlt
    have hwrap : IntKind.i64.wrap ((i : Int) + 1) = ((i + 1 : Nat) : Int) := (wrap_small _ (by omega) (by omega)).trans (by omega)
    have htk := take_cells (g := cT) (n := 4) (fun _ => rfl) ts i hlt
    have hir : (0 : Int) ≤ (i : Int) ∧ (i : Int) < ts.length := ⟨Int.natCast_nonneg _, Int.ofNat_lt.2 hlt⟩
    have hcd := countV_drop ts i hlt
    generalize ts[i] = t at hcd htk
    conv => whnf
    refine ⟨hir, _, htk, ?_⟩
    conv => whnf
    refine use_pure (ok49 t) rfl ⟨rfl, ?_⟩
    conv => whnf
    split
    · rename_i e
      have e : isVar t = true := e
      have hw2 : IntKind.i64.wrap (getM m t.text + 1) = getM m t.text + 1 := by
        have h1 := hinv t.text
        have h2 := countV_le ts t.text
        have h3 := countV_mono ts i t.text
        exact wrap_small _ (by omega) (by omega)
      have hn : ∀ s, (countV ts s : Int) = getM (setM m t.text (getM m t.text + 1)) s + countV (ts.drop (i + 1)) s := by
        intro s
        rw [get_set, hinv s, hcd s, e]
        by_cases h : s = t.text
        · subst h; simp; omega
        · have : ¬ t.text = s := fun q => h q.symm
          simp [h, this]
      conv => whnf
      refine ⟨cM m, rfl, ⟨rfl, keys_cM rfl m⟩, _, get_cM (E := E0) (k := 9) rfl m t.text, ?_⟩
      conv => whnf
      refine ⟨cM m, rfl, ⟨rfl, rfl, keys_cM rfl m⟩, _, upd_cM (E := E0) (k := 9) rfl m t.text _, ?_⟩
      conv => whnf
      exact ⟨⟨(i + 1, setM m t.text (getM m t.text + 1)), hn⟩, wk_of ⟨avle_refl _, avle_refl _, avle_refl _, avle_refl _, avle_refl _, avle_int hwrap, trivial⟩ ⟨oble_refl _, oble_map (by rw [hw2]), trivial⟩ rfl ⟨trivial, trivial, trivial, trivial, trivial, trivial, trivial⟩, Nat.sub_lt_sub_left hlt (Nat.lt_succ_self i)⟩
    · rename_i e
      have e : isVar t = false := e
      have hn : ∀ s, (countV ts s : Int) = getM m s + countV (ts.drop (i + 1)) s := by
        intro s; rw [hinv s, hcd s, e]; simp
      conv => whnf
      exact ⟨⟨(i + 1, m), hn⟩, wk_of ⟨avle_refl _, avle_refl _, avle_refl _, avle_refl _, avle_refl _, avle_int hwrap, trivial⟩ ⟨oble_refl _, oble_map rfl, trivial⟩ rfl ⟨trivial, trivial, trivial, trivial, trivial, trivial, trivial⟩, Nat.sub_lt_sub_left hlt (Nat.lt_succ_self i)⟩
  rename_i hlt
  have hlt : ts.length ≤ i := by simpa using hlt
  have hm : ∀ s, (countV ts s : Int) = getM m s := fun s => by rw [hinv s, List.drop_of_length_le hlt]; simp [countV]
  conv => whnf
  refine use_pure (ok48 c (by rw [hts]; exact hl) hb) (nr1 (nr_aCl _)) ⟨rfl, ?_⟩
  rw [hts]
  conv => whnf
  refine ⟨{ p : Nat × List Fd // singP ts n = p.2 ++ (ts.drop p.1).flatMap (singF ts n) ∧ p.2.length ≤ p.1 }, fun p => St [(1, .sc (.int .i64 n)), (5, .mp (.loc 11)), (8, vFo p.1.2), (28, vT ts), (29, .sc (.int .i64 ts.length)), (30, .sc (.int .i64 p.1.1))] [(11, .map (cM m))] [], fun p => ts.length - p.1.1, ⟨(0, []), rfl, Nat.le_refl _⟩, ?_, ?_⟩
  · exact wk_of ⟨avle_refl _, avle_refl _, avle_nil _ _, avle_refl _, avle_refl _, avle_refl _, trivial⟩ ⟨oble_map rfl, trivial⟩ rfl ⟨trivial, trivial, trivial, trivial, trivial, trivial, trivial⟩
  rintro ⟨⟨i, out⟩, hinv, hle⟩
  simp only at hinv hle
  conv => whnf
  split
  · rename_i hlt
    have hlt : i < ts.length := by simpa using hlt
    have hwrap : IntKind.i64.wrap ((i : Int) + 1) = ((i + 1 : Nat) : Int) := (wrap_small _ (by omega) (by omega)).trans (by omega)
    have htk := take_cells (g := cT) (n := 4) (fun _ => rfl) ts i hlt
    have hir : (0 : Int) ≤ (i : Int) ∧ (i : Int) < ts.length := ⟨Int.natCast_nonneg _, Int.ofNat_lt.2 hlt⟩
    have hvt := hv ts[i] (List.getElem_mem hlt)
    rw [flat_drop _ _ _ hlt, ← List.append_assoc] at hinv
    generalize ts[i] = t at hinv htk hvt
    have skip : onceT ts t = false → singP ts n = out ++ (ts.drop (i + 1)).flatMap (singF ts n) ∧ out.length ≤ i + 1 := by
      intro e
      have : singF ts n t = [] := by simp [singF, e]
      rw [this, List.append_nil] at hinv
      exact ⟨hinv, by omega⟩
    conv => whnf
    refine ⟨hir, _, htk, ?_⟩
    conv => whnf
    refine use_pure (ok49 t) rfl ⟨rfl, ?_⟩
    conv => whnf
    split
    case h_2 =>
      rename_i e
      have e : isVar t = false := e
      have hs := skip (by simp [onceT, e])
      conv => whnf
      exact ⟨⟨(i + 1, out), hs⟩, wk_of ⟨avle_refl _, avle_refl _, avle_refl _, avle_refl _, avle_refl _, avle_int hwrap, trivial⟩ ⟨oble_map rfl, trivial⟩ rfl ⟨trivial, trivial, trivial, trivial, trivial, trivial, trivial⟩, Nat.sub_lt_sub_left hlt (Nat.lt_succ_self i)⟩
    rename_i e
    have e : isVar t = true := e
    conv => whnf
    refine idx0 (hvt e) ?_
    conv => whnf
    split
    case h_2 =>
      rename_i e2
      have e2 : (!decide (headB t.text = 95)) = false := e2
      have hs := skip (by simp [onceT, e2])
      conv => whnf
      exact ⟨⟨(i + 1, out), hs⟩, wk_of ⟨avle_refl _, avle_refl _, avle_refl _, avle_refl _, avle_refl _, avle_int hwrap, trivial⟩ ⟨oble_map rfl, trivial⟩ rfl ⟨trivial, trivial, trivial, trivial, trivial, trivial, trivial⟩, Nat.sub_lt_sub_left hlt (Nat.lt_succ_self i)⟩
    rename_i e2
    have e2 : (!decide (headB t.text = 95)) = true := e2
    conv => whnf
    refine ⟨cM m, rfl, ⟨rfl, keys_cM rfl m⟩, _, get_cM (E := E0) (k := 9) rfl m t.text, ?_⟩
    conv => whnf
    split
    · rename_i e3
      have e3 : decide (getM m t.text = 1) = true := e3
      have hs : onceT ts t = true := by
        have h3 := hm t.text
        have h4 : getM m t.text = 1 := of_decide_eq_true e3
        have h5 : countV ts t.text = 1 := by omega
        simp only [onceT, e, e2, h5]; rfl
      have hs2 : singF ts n t = [⟨4, n, -1, t.off, t.text⟩] := by simp [singF, hs]
      rw [hs2] at hinv
      conv => whnf
      refine ⟨⟨by show out.length + 1 ≤ _; omega, by show (out.length + 1) * 48 ≤ _; omega, rfl⟩, ?_⟩
      conv => whnf
      exact ⟨⟨(i + 1, out ++ [⟨4, n, -1, t.off, t.text⟩]), hinv, by simp; omega⟩, wk_of ⟨avle_refl _, avle_refl _, avle_eq (vFo_app _ _), avle_refl _, avle_refl _, avle_int hwrap, trivial⟩ ⟨oble_map rfl, trivial⟩ rfl ⟨trivial, trivial, trivial, trivial, trivial, trivial, trivial⟩, Nat.sub_lt_sub_left hlt (Nat.lt_succ_self i)⟩
    · rename_i e3
      have e3 : decide (getM m t.text = 1) = false := e3
      have hs := skip (by
        have h3 := hm t.text
        have h4 : ¬ getM m t.text = 1 := of_decide_eq_false e3
        have h5 : ¬ countV ts t.text = 1 := by omega
        simp [onceT, h5])
      conv => whnf
      exact ⟨⟨(i + 1, out), hs⟩, wk_of ⟨avle_refl _, avle_refl _, avle_refl _, avle_refl _, avle_refl _, avle_int hwrap, trivial⟩ ⟨oble_map rfl, trivial⟩ rfl ⟨trivial, trivial, trivial, trivial, trivial, trivial, trivial⟩, Nat.sub_lt_sub_left hlt (Nat.lt_succ_self i)⟩
  · rename_i hlt
    have hlt : ts.length ≤ i := by simpa using hlt
    rw [List.drop_of_length_le hlt] at hinv
    have hinv : singP ts n = out := by rw [hinv]; simp
    have hres : avle (.vec false 5 out.length (out.flatMap cF)) (vF (singP ts n)) := by rw [hinv]; exact avle_refl _
    conv => whnf
    exact hres
end Go.Proofs.YtjchgncgkhofhaaGreat.AL
/- The program's functions in abstract words: variables that stand once (edictref18). -/
set_option linter.unusedVariables false
namespace Go.Proofs.YtjchgncgkhofhaaGreat.AL
open Go
attribute [local irreducible] PlainFn CallOk

set_option maxHeartbeats 1000000 in
theorem ok16 (c : Cl) (n : Int) (hl : (allT c).length ≤ 1000000) (hb : c.body.length ≤ 9223372036854775807) (hv : ∀ t ∈ allT c, isVar t = true → 1 ≤ t.text.size) : POk 16 [aCl c, .sc (.int .i64 n)] (vF (singP (allT c) n)) := by
  refine POk.of_v ?_ (nrL_flat (fun _ => rfl) _)
  refine fn_ok mixed (En_ok _ _ _ _) (pl := fun r => if r = 14 then ([1, 2, 3, 4, 5, 6, 7, 8, 9, 10, 11, 12, 13, 0, 14, 15].map Pl.one) else (List.range 19).map Pl.one) (fn := Go.Proofs.Tryz.f16) (c := _) (by kernel_rfl) rfl (by decide) (by kernel_rfl) (E := E0) ?_
  conv => whnf
  refine use_pure (ok34 c hl hb) (nr1 (nr_aCl _)) ⟨rfl, ?_⟩
  conv => whnf
  generalize hts : allT c = ts at *
  refine ⟨{ p : Nat × List Fd // singP ts n = p.2 ++ (ts.drop p.1).flatMap (singF ts n) ∧ p.2.length ≤ p.1 }, fun p => St [(1, .sc (.int .i64 n)), (5, vFo p.1.2), (6, vT ts), (7, .sc (.int .i64 p.1.1))] [] [], fun p => ts.length - p.1.1, ⟨(0, []), rfl, Nat.le_refl _⟩, ?_, ?_⟩
  · exact wk_of ⟨avle_refl _, avle_nil _ _, avle_refl _, avle_refl _, trivial⟩ trivial rfl ⟨trivial, trivial, trivial, trivial, trivial⟩
  rintro ⟨⟨i, out⟩, hinv, hle⟩
  simp only at hinv hle
  conv => whnf
  split
  case h_2 =>
    rename_i hlt
    have hlt : ts.length ≤ i := by simpa using hlt
    rw [List.drop_of_length_le hlt] at hinv
    have hinv : singP ts n = out := by rw [hinv]; simp
    have hres : avle (.vec false 5 out.length (out.flatMap cF)) (vF (singP ts n)) := by rw [hinv]; exact avle_refl _
    conv => whnf
    exact hres
  rename_i hlt
  have hlt : i < ts.length := by simpa using hlt
  have hwrap : IntKind.i64.wrap ((i : Int) + 1) = ((i + 1 : Nat) : Int) := (wrap_small _ (by omega) (by omega)).trans (by omega)
  have htk := take_cells (g := cT) (n := 4) (fun _ => rfl) ts i hlt
  have hir : (0 : Int) ≤ (i : Int) ∧ (i : Int) < ts.length := ⟨Int.natCast_nonneg _, Int.ofNat_lt.2 hlt⟩
  have hvt := hv ts[i] (List.getElem_mem hlt)
  rw [flat_drop _ _ _ hlt, ← List.append_assoc] at hinv
  generalize ts[i] = t at hinv htk hvt
  have skip : onceT ts t = false → singP ts n = out ++ (ts.drop (i + 1)).flatMap (singF ts n) ∧ out.length ≤ i + 1 := by
    intro e
    have : singF ts n t = [] := by simp [singF, e]
    rw [this, List.append_nil] at hinv
    exact ⟨hinv, by omega⟩
  conv => whnf
  refine ⟨hir, _, htk, ?_⟩
  conv => whnf
  split
  · rename_i e
    have e : (!decide (t.kind = 4)) = true := e
    have e : isVar t = false := by simpa [isVar] using e
    have hs := skip (by simp [onceT, e])
    conv => whnf
    exact ⟨⟨(i + 1, out), hs⟩, wk_of ⟨avle_refl _, avle_refl _, avle_refl _, avle_int hwrap, trivial⟩ trivial rfl ⟨trivial, trivial, trivial, trivial, trivial⟩, Nat.sub_lt_sub_left hlt (Nat.lt_succ_self i)⟩
  rename_i e
  have e : (!decide (t.kind = 4)) = false := e
  have e : isVar t = true := by simpa [isVar] using e
  conv => whnf
  refine ⟨hir, _, htk, ?_⟩
  conv => whnf
  refine idx0 (hvt e) ?_
  conv => whnf
  split
  · rename_i e2
    have e2 : decide (headB t.text = 95) = true := e2
    have hs := skip (by simp [onceT, e2])
    conv => whnf
    exact ⟨⟨(i + 1, out), hs⟩, wk_of ⟨avle_refl _, avle_refl _, avle_refl _, avle_int hwrap, trivial⟩ trivial rfl ⟨trivial, trivial, trivial, trivial, trivial⟩, Nat.sub_lt_sub_left hlt (Nat.lt_succ_self i)⟩
  rename_i e2
  have e2 : decide (headB t.text = 95) = false := e2
  conv => whnf
  refine ⟨{ q : Nat × Nat // (countV ts t.text) = q.1 + countV (ts.drop q.2) t.text }, fun q => St [(1, .sc (.int .i64 n)), (5, vFo out), (6, vT ts), (7, .sc (.int .i64 i)), (8, .sc (.int .i64 q.1.1)), (9, .sc (.int .i64 q.1.2))] [] [], fun q => ts.length - q.1.2, ⟨(0, 0), by simp⟩, ?_, ?_⟩
  · exact wk_of ⟨avle_refl _, avle_refl _, avle_refl _, avle_refl _, avle_refl _, avle_refl _, trivial⟩ trivial rfl ⟨trivial, trivial, trivial, trivial, trivial, trivial, trivial⟩
  rintro ⟨⟨times, j⟩, hq⟩
  simp only at hq
  have htimes : times ≤ 1000000 := by have := countV_le ts t.text; omega
  conv => whnf
  split
  · rename_i hlt2
    have hlt2 : j < ts.length := by simpa using hlt2
    have hwrap2 : IntKind.i64.wrap ((j : Int) + 1) = ((j + 1 : Nat) : Int) := (wrap_small _ (by omega) (by omega)).trans (by omega)
    have hwrap3 : IntKind.i64.wrap ((times : Int) + 1) = ((times + 1 : Nat) : Int) := (wrap_small _ (by omega) (by omega)).trans (by omega)
    have htk2 := take_cells (g := cT) (n := 4) (fun _ => rfl) ts j hlt2
    have hir2 : (0 : Int) ≤ (j : Int) ∧ (j : Int) < ts.length := ⟨Int.natCast_nonneg _, Int.ofNat_lt.2 hlt2⟩
    rw [countV_drop ts j hlt2] at hq
    generalize ts[j] = u at hq htk2
    conv => whnf
    refine And.intro (by kernel_rfl) ?_
    conv => whnf
    refine ⟨hir2, _, htk2, ?_⟩
    conv => whnf
    split
    case h_2 =>
      rename_i k1
      have k1 : decide (u.kind = 4) = false := k1
      rw [if_neg (by simp [isVar, k1]), Nat.zero_add] at hq
      conv => whnf
      exact ⟨⟨(times, j + 1), hq⟩, wk_of ⟨avle_refl _, avle_refl _, avle_refl _, avle_refl _, avle_refl _, avle_int hwrap2, trivial⟩ trivial rfl ⟨trivial, trivial, trivial, trivial, trivial, trivial, trivial⟩, Nat.sub_lt_sub_left hlt2 (Nat.lt_succ_self j)⟩
    rename_i k1
    have k1 : decide (u.kind = 4) = true := k1
    conv => whnf
    refine ⟨hir2, _, htk2, ?_⟩
    conv => whnf
    refine ⟨hir, _, htk, ?_⟩
    conv => whnf
    split
    case h_2 =>
      rename_i k2
      have k2 : decide (u.text = t.text) = false := k2
      rw [if_neg (by simp [k2]), Nat.zero_add] at hq
      conv => whnf
      exact ⟨⟨(times, j + 1), hq⟩, wk_of ⟨avle_refl _, avle_refl _, avle_refl _, avle_refl _, avle_refl _, avle_int hwrap2, trivial⟩ trivial rfl ⟨trivial, trivial, trivial, trivial, trivial, trivial, trivial⟩, Nat.sub_lt_sub_left hlt2 (Nat.lt_succ_self j)⟩
    rename_i k2
    have k2 : decide (u.text = t.text) = true := k2
    rw [if_pos (by simp only [isVar, k1, k2]; rfl), ← Nat.add_assoc] at hq
    conv => whnf
    exact ⟨⟨(times + 1, j + 1), hq⟩, wk_of ⟨avle_refl _, avle_refl _, avle_refl _, avle_refl _, avle_int hwrap3, avle_int hwrap2, trivial⟩ trivial rfl ⟨trivial, trivial, trivial, trivial, trivial, trivial, trivial⟩, Nat.sub_lt_sub_left hlt2 (Nat.lt_succ_self j)⟩
  rename_i hlt2
  have hlt2 : ts.length ≤ j := by simpa using hlt2
  have hq2 : countV ts t.text = times := by rw [hq, List.drop_of_length_le hlt2]; simp [countV]
  conv => whnf
  split
  case h_2 =>
    rename_i e3
    have e3 : decide ((times : Int) = 1) = false := e3
    have hs := skip (by
      have h4 : ¬ (times : Int) = 1 := of_decide_eq_false e3
      have h5 : ¬ countV ts t.text = 1 := by omega
      simp [onceT, h5])
    conv => whnf
    exact ⟨⟨(i + 1, out), hs⟩, wk_of ⟨avle_refl _, avle_refl _, avle_refl _, avle_int hwrap, trivial⟩ trivial rfl ⟨trivial, trivial, trivial, trivial, trivial⟩, Nat.sub_lt_sub_left hlt (Nat.lt_succ_self i)⟩
  rename_i e3
  have e3 : decide ((times : Int) = 1) = true := e3
  have hs : onceT ts t = true := by
    have h4 : (times : Int) = 1 := of_decide_eq_true e3
    have h5 : countV ts t.text = 1 := by omega
    simp only [onceT, e, e2, h5]; rfl
  have hs2 : singF ts n t = [⟨4, n, -1, t.off, t.text⟩] := by simp [singF, hs]
  rw [hs2] at hinv
  conv => whnf
  refine And.intro (by kernel_rfl) ?_
  conv => whnf
  refine ⟨hir, _, htk, ?_⟩
  conv => whnf
  refine ⟨hir, _, htk, ?_⟩
  conv => whnf
  refine ⟨⟨by show out.length + 1 ≤ _; omega, by show (out.length + 1) * 48 ≤ _; omega, rfl⟩, ?_⟩
  conv => whnf
  exact ⟨⟨(i + 1, out ++ [⟨4, n, -1, t.off, t.text⟩]), hinv, by simp; omega⟩, wk_of ⟨avle_refl _, avle_eq (vFo_app _ _), avle_refl _, avle_int hwrap, trivial⟩ trivial rfl ⟨trivial, trivial, trivial, trivial, trivial⟩, Nat.sub_lt_sub_left hlt (Nat.lt_succ_self i)⟩
end Go.Proofs.YtjchgncgkhofhaaGreat.AL
/- The program's functions in abstract words: predicates that stand in no body (edictref18). -/
set_option linter.unusedVariables false
namespace Go.Proofs.YtjchgncgkhofhaaGreat.AL
open Go
attribute [local irreducible] PlainFn CallOk

def namesL (s : ByteArray) (l : Lt) : Bool := !decide (l.kind = 3) && decide (l.atom.pred = s)
def namesC (s : ByteArray) (c : Cl) : Bool := c.body.any (namesL s)
def namedP (p : List Cl) (s : ByteArray) : Bool := p.any (namesC s)
theorem ok37 (p : List Cl) (s : ByteArray) (hl : p.length ≤ 9223372036854775807) (hb : ∀ c ∈ p, c.body.length ≤ 9223372036854775807) : POk 37 [aP p, .sc (.string s)] (.sc (.bool (namedP p s))) := by
  refine fn_ok mixed (En_ok _ _ _ _) (pl := fun _ => []) (fn := Go.Proofs.Tryz.f37) (c := _) (by kernel_rfl) rfl (by decide) (by kernel_rfl) (E := E0) ?_
  conv => whnf
  refine ⟨{ i : Nat // p.any (namesC s) = (p.drop i).any (namesC s) }, fun i => St [(1, .sc (.string s)), (2, .pp (.loc 2) 0), (5, .sc (.int .i64 i.1))] [(2, .cells 0 [vC p])] [], fun i => p.length - i.1, ⟨0, rfl⟩, ?_, ?_⟩
  · exact wk_of ⟨avle_refl _, avle_refl _, avle_refl _, trivial⟩ ⟨oble_refl _, trivial⟩ rfl ⟨trivial, trivial, trivial, trivial⟩
  rintro ⟨i, hinv⟩
  conv => whnf
  split
  case h_2 =>
    rename_i hlt
    have hlt : p.length ≤ i := by simpa using hlt
    rw [List.drop_of_length_le hlt] at hinv
    conv => whnf
    exact ⟨rfl, avb (hinv.trans rfl).symm⟩
  rename_i hlt
  have hlt : i < p.length := by simpa using hlt
  have hwrap : IntKind.i64.wrap ((i : Int) + 1) = ((i + 1 : Nat) : Int) := (wrap_small _ (by omega) (by omega)).trans (by omega)
  rw [any_drop _ p i hlt] at hinv
  have hmem := hb p[i] (List.getElem_mem hlt)
  have htk := take_cells (g := cC) (n := 4) (fun _ => rfl) p i hlt
  have hir : (0 : Int) ≤ (i : Int) ∧ (i : Int) < p.length := ⟨Int.natCast_nonneg _, Int.ofNat_lt.2 hlt⟩
  generalize p[i] = c at hinv hmem htk
  conv => whnf
  refine ⟨{ j : Nat // namesC s c = (c.body.drop j).any (namesL s) }, fun j => St [(1, .sc (.string s)), (2, .pp (.loc 2) 0), (5, .sc (.int .i64 i)), (6, .sc (.int .i64 j.1))] [(2, .cells 0 [vC p])] [], fun j => c.body.length - j.1, ⟨0, rfl⟩, ?_, ?_⟩
  · exact wk_of ⟨avle_refl _, avle_refl _, avle_refl _, avle_refl _, trivial⟩ ⟨oble_refl _, trivial⟩ rfl ⟨trivial, trivial, trivial, trivial, trivial⟩
  rintro ⟨j, hj⟩
  conv => whnf
  refine ⟨hir, _, htk, ?_⟩
  conv => whnf
  split
  case h_2 =>
    rename_i hlt2
    have hlt2 : c.body.length ≤ j := by simpa using hlt2
    rw [List.drop_of_length_le hlt2] at hj
    have hj : namesC s c = false := hj
    rw [hj, Bool.false_or] at hinv
    conv => whnf
    exact ⟨⟨i + 1, hinv⟩, wk_of ⟨avle_refl _, avle_refl _, avle_int hwrap, trivial⟩ ⟨oble_refl _, trivial⟩ rfl ⟨trivial, trivial, trivial, trivial⟩, Nat.sub_lt_sub_left hlt (Nat.lt_succ_self i)⟩
  rename_i hlt2
  have hlt2 : j < c.body.length := by simpa using hlt2
  have hwrap2 : IntKind.i64.wrap ((j : Int) + 1) = ((j + 1 : Nat) : Int) := (wrap_small _ (by omega) (by omega)).trans (by omega)
  rw [any_drop _ c.body j hlt2] at hj
  have htk2 := take_cells (g := cL) (n := 14) (fun _ => rfl) c.body j hlt2
  have hir2 : (0 : Int) ≤ (j : Int) ∧ (j : Int) < c.body.length := ⟨Int.natCast_nonneg _, Int.ofNat_lt.2 hlt2⟩
  generalize c.body[j] = l at hj htk2
  have next : namesL s l = false → namesC s c = (c.body.drop (j + 1)).any (namesL s) := fun e => by rw [hj, e]; rfl
  conv => whnf
  refine ⟨hir, _, htk, ?_⟩
  conv => whnf
  refine ⟨hir2, _, htk2, ?_⟩
  conv => whnf
  split
  case h_2 =>
    rename_i e
    have e : (!decide (l.kind = 3)) = false := e
    have hn := next (by simp [namesL, e])
    conv => whnf
    exact ⟨⟨j + 1, hn⟩, wk_of ⟨avle_refl _, avle_refl _, avle_refl _, avle_int hwrap2, trivial⟩ ⟨oble_refl _, trivial⟩ rfl ⟨trivial, trivial, trivial, trivial, trivial⟩, Nat.sub_lt_sub_left hlt2 (Nat.lt_succ_self j)⟩
  rename_i e
  have e : (!decide (l.kind = 3)) = true := e
  conv => whnf
  split
  case h_2 =>
    rename_i e2
    have e2 : decide (l.atom.pred = s) = false := e2
    have hn := next (by simp [namesL, e2])
    conv => whnf
    exact ⟨⟨j + 1, hn⟩, wk_of ⟨avle_refl _, avle_refl _, avle_refl _, avle_int hwrap2, trivial⟩ ⟨oble_refl _, trivial⟩ rfl ⟨trivial, trivial, trivial, trivial, trivial⟩, Nat.sub_lt_sub_left hlt2 (Nat.lt_succ_self j)⟩
  rename_i e2
  have e2 : decide (l.atom.pred = s) = true := e2
  have h1 : namesL s l = true := by simp only [namesL, e, e2]; rfl
  rw [h1, Bool.true_or] at hj
  rw [hj, Bool.true_or] at hinv
  conv => whnf
  exact ⟨rfl, avb hinv.symm⟩
def headsP (p : List Cl) (s : ByteArray) (i : Nat) : Bool := (p.take i).any fun d => decide (d.body.length > 0) && decide (d.head.pred = s)
/-- edictref18.unused -/
def unusedP (p : List Cl) (i : Nat) (c : Cl) : Bool := !decide (c.body.length = 0) && !namedP p c.head.pred && !headsP p c.head.pred i
theorem take_any {α : Type} (f : α → Bool) (l : List α) (i : Nat) (h : i < l.length) : (l.take (i + 1)).any f = ((l.take i).any f || f l[i]) := by
  rw [List.take_succ_eq_append_getElem h, List.any_append]; simp
theorem any_take {α : Type} (f : α → Bool) (l : List α) (i j : Nat) (hij : i < j) (h : i < l.length) (hf : f l[i] = true) : (l.take j).any f = true := by
  rw [List.any_eq_true]
  exact ⟨l[i], List.mem_take_iff_getElem.2 ⟨i, by omega, rfl⟩, hf⟩
theorem ok18 (p : List Cl) (i : Nat) (hi : i < p.length) (hl : p.length ≤ 9223372036854775807) (hb : ∀ c ∈ p, c.body.length ≤ 9223372036854775807) : POk 18 [aP p, .sc (.int .i64 i)] (.sc (.bool (unusedP p i p[i]))) := by
  refine fn_ok mixed (En_ok _ _ _ _) (pl := fun _ => (List.range 21).map Pl.one) (fn := Go.Proofs.Tryz.f18) (c := _) (by kernel_rfl) rfl (by decide) (by kernel_rfl) (E := E0) ?_
  have htk := take_cells (g := cC) (n := 4) (fun _ => rfl) p i hi
  have hir : (0 : Int) ≤ (i : Int) ∧ (i : Int) < p.length := ⟨Int.natCast_nonneg _, Int.ofNat_lt.2 hi⟩
  generalize p[i] = c at htk
  conv => whnf
  refine ⟨hir, _, htk, ?_⟩
  conv => whnf
  split
  · rename_i e
    have e : decide ((c.body.length : Int) = 0) = true := e
    have e : c.body.length = 0 := by simp at e; simp [e]
    conv => whnf
    exact ⟨rfl, by simp [unusedP, e]⟩
  rename_i e
  have e : decide ((c.body.length : Int) = 0) = false := e
  have e : ¬ c.body.length = 0 := by
    have := of_decide_eq_false e; omega
  conv => whnf
  refine use_pure (ok37 p c.head.pred hl hb) (nr2 (nr_aP _) rfl) ⟨rfl, ?_⟩
  conv => whnf
  split
  · rename_i e2
    have e2 : namedP p c.head.pred = true := e2
    conv => whnf
    exact ⟨rfl, by simp [unusedP, e2]⟩
  rename_i e2
  have e2 : namedP p c.head.pred = false := e2
  have hu : unusedP p i c = !headsP p c.head.pred i := by simp [unusedP, e, e2]
  conv => whnf
  refine ⟨{ j : Nat // headsP p c.head.pred j = false ∧ j ≤ i }, fun j => St [(1, .sc (.int .i64 i)), (2, .pp (.loc 2) 0), (5, .pp (.loc 5) 0), (6, .sc (.int .i64 j.1))] [(2, .cells 0 [vC p]), (5, .cells 0 (cC c))] [], fun j => i - j.1, ⟨0, rfl, Nat.zero_le _⟩, ?_, ?_⟩
  · exact wk_of ⟨avle_refl _, avle_refl _, avle_refl _, avle_refl _, trivial⟩ ⟨oble_refl _, oble_refl _, trivial⟩ rfl ⟨trivial, trivial, trivial, trivial, trivial⟩
  rintro ⟨j, hj, hji⟩
  conv => whnf
  split
  case h_2 =>
    rename_i hlt
    have hlt : j = i := by simp at hlt; omega
    subst hlt
    conv => whnf
    exact ⟨rfl, avb (by rw [hu, hj]; rfl)⟩
  rename_i hlt
  have hlt : j < i := by simpa using hlt
  have hlt2 : j < p.length := by omega
  have hwrap : IntKind.i64.wrap ((j : Int) + 1) = ((j + 1 : Nat) : Int) := (wrap_small _ (by omega) (by omega)).trans (by omega)
  have hta := take_any (fun d => decide (d.body.length > 0) && decide (d.head.pred = c.head.pred)) p j hlt2
  have hat := any_take (fun d => decide (d.body.length > 0) && decide (d.head.pred = c.head.pred)) p j i hlt hlt2
  have htk2 := take_cells (g := cC) (n := 4) (fun _ => rfl) p j hlt2
  have hir2 : (0 : Int) ≤ (j : Int) ∧ (j : Int) < p.length := ⟨Int.natCast_nonneg _, Int.ofNat_lt.2 hlt2⟩
  generalize p[j] = d at hta hat htk2
  have next : (decide (d.body.length > 0) && decide (d.head.pred = c.head.pred)) = false → headsP p c.head.pred (j + 1) = false := fun e => by
    unfold headsP; rw [hta, e]; unfold headsP at hj; rw [hj]; rfl
  conv => whnf
  refine And.intro (by kernel_rfl) ?_
  conv => whnf
  refine ⟨hir2, _, htk2, ?_⟩
  conv => whnf
  split
  case h_2 =>
    rename_i e3
    have e3 : decide ((d.body.length : Int) > 0) = false := e3
    have e3 : decide (d.body.length > 0) = false := by
      have := of_decide_eq_false e3; exact decide_eq_false (by omega)
    have hn := next (by rw [e3]; rfl)
    conv => whnf
    exact ⟨⟨j + 1, hn, by omega⟩, wk_of ⟨avle_refl _, avle_refl _, avle_refl _, avle_int hwrap, trivial⟩ ⟨oble_refl _, oble_refl _, trivial⟩ rfl ⟨trivial, trivial, trivial, trivial, trivial⟩, Nat.sub_lt_sub_left hlt (Nat.lt_succ_self j)⟩
  rename_i e3
  have e3 : decide ((d.body.length : Int) > 0) = true := e3
  have e3 : decide (d.body.length > 0) = true := by
    have := of_decide_eq_true e3; exact decide_eq_true (by omega)
  conv => whnf
  refine ⟨hir2, _, htk2, ?_⟩
  conv => whnf
  split
  case h_2 =>
    rename_i e4
    have e4 : decide (d.head.pred = c.head.pred) = false := e4
    have hn := next (by rw [e3, e4]; rfl)
    conv => whnf
    exact ⟨⟨j + 1, hn, by omega⟩, wk_of ⟨avle_refl _, avle_refl _, avle_refl _, avle_int hwrap, trivial⟩ ⟨oble_refl _, oble_refl _, trivial⟩ rfl ⟨trivial, trivial, trivial, trivial, trivial⟩, Nat.sub_lt_sub_left hlt (Nat.lt_succ_self j)⟩
  rename_i e4
  have e4 : decide (d.head.pred = c.head.pred) = true := e4
  have hh : headsP p c.head.pred i = true := hat (by rw [e3, e4]; rfl)
  conv => whnf
  exact ⟨rfl, avb (by rw [hu, hh]; rfl)⟩
end Go.Proofs.YtjchgncgkhofhaaGreat.AL
/- The program's functions in abstract words: parts of clauses (edictref18). -/
set_option linter.unusedVariables false
namespace Go.Proofs.YtjchgncgkhofhaaGreat.AL
open Go
attribute [local irreducible] PlainFn CallOk

/-- The things of terms; n counts the _ ahead. -/
def thP : List Tm → Nat → List Th
  | [], _ => []
  | t :: r, n => if anon t = true then ⟨t.kind, t.num, t.text, (n + 1 : Nat)⟩ :: thP r (n + 1) else ⟨t.kind, t.num, t.text, 0⟩ :: thP r n
def thN : List Tm → Nat → Nat
  | [], n => n
  | t :: r, n => if anon t = true then thN r (n + 1) else thN r n
theorem thP_len : ∀ (ts : List Tm) (n : Nat), (thP ts n).length = ts.length
  | [], _ => rfl
  | t :: r, n => by unfold thP; split <;> simp [thP_len r]
theorem thN_le : ∀ (ts : List Tm) (n : Nat), n ≤ thN ts n ∧ thN ts n ≤ n + ts.length
  | [], _ => ⟨Nat.le_refl _, Nat.le_refl _⟩
  | t :: r, n => by
    unfold thN; split
    · have := thN_le r (n + 1); simp; omega
    · have := thN_le r n; simp; omega
theorem thP_drop (ts : List Tm) (i n : Nat) (h : i < ts.length) : thP (ts.drop i) n = if anon ts[i] = true then ⟨ts[i].kind, ts[i].num, ts[i].text, (n + 1 : Nat)⟩ :: thP (ts.drop (i + 1)) (n + 1) else ⟨ts[i].kind, ts[i].num, ts[i].text, 0⟩ :: thP (ts.drop (i + 1)) n := by
  rw [List.drop_eq_getElem_cons h]; rfl
theorem thN_drop (ts : List Tm) (i n : Nat) (h : i < ts.length) : thN (ts.drop i) n = if anon ts[i] = true then thN (ts.drop (i + 1)) (n + 1) else thN (ts.drop (i + 1)) n := by
  rw [List.drop_eq_getElem_cons h]; rfl
/-- A head or a literal as a part. -/
structure Pt where
  kind : Int
  pred : ByteArray
  op : Int
  things : List Th
  deriving DecidableEq
def cP (p : Pt) : List AV := [.sc (.int .i64 p.kind), .sc (.string p.pred), .sc (.int .i64 p.op), vTh p.things]
def aPt (p : Pt) : AV := .agg (cP p)
def vP (l : List Pt) : AV := .vec false 4 l.length (l.flatMap cP)
def vPo (l : List Pt) : AV := .vec true 4 l.length (l.flatMap cP)
theorem nrL_cP (p : Pt) : nrL (cP p) = true := by simp only [cP, nrL, nr_vTh]; rfl
theorem nr_aPt (p : Pt) : nr (aPt p) = true := nrL_cP p
theorem nr_vP (l : List Pt) : nr (vP l) = true := nrL_flat nrL_cP l
theorem okc_P (l : List Pt) : (l.flatMap cP).all okc = true := okc_flat (fun _ => rfl) l
theorem okc_Th (l : List Th) : (l.flatMap cTh).all okc = true := okc_flat (fun _ => rfl) l
theorem vTho_app (a b : List Th) : AV.vec true 4 (a ++ b).length ((a ++ b).flatMap cTh) = .vec true 4 (a.length + b.length) (a.flatMap cTh ++ b.flatMap cTh) := by simp
theorem vPo_app (a b : List Pt) : vPo (a ++ b) = .vec true 4 (a.length + b.length) (a.flatMap cP ++ b.flatMap cP) := by simp [vPo]
theorem List.append_cons_assoc' {α : Type} {a b : List α} {x : α} : (a ++ [x]) ++ b = a ++ x :: b := by simp
theorem nrL5 {v w x y z : AV} (h1 : nr v = true) (h2 : nr w = true) (h3 : nr x = true) (h4 : nr y = true) (h5 : nr z = true) : nrL [v, w, x, y, z] = true := by simp [nrL, h1, h2, h3, h4, h5]
def partV (kind : Int) (pred : ByteArray) (op : Int) (ts : List Tm) (n : Nat) : AV := .tup [aPt ⟨kind, pred, op, thP ts n⟩, .sc (.int .i64 (thN ts n))]
theorem nr_partV (kind : Int) (pred : ByteArray) (op : Int) (ts : List Tm) (n : Nat) : nr (partV kind pred op ts n) = true := nr2 (nr_aPt _) rfl
theorem ok77 (kind : Int) (pred : ByteArray) (op : Int) (ts : List Tm) (n : Nat) (hl : ts.length ≤ 1000000) (hn : n ≤ 1000000000) :
    POk 77 [.sc (.int .i64 kind), .sc (.string pred), .sc (.int .i64 op), vT ts, .sc (.int .i64 n)] (partV kind pred op ts n) := by
  refine fn_ok mixed (En_ok _ _ _ _) (pl := fun _ => []) (fn := Go.Proofs.Tryz.f77) (c := _) (by kernel_rfl) rfl (by decide) (by kernel_rfl) (E := E0) ?_
  conv => whnf
  refine ⟨{ p : Nat × List Th × Nat // thP ts n = p.2.1 ++ thP (ts.drop p.1) p.2.2 ∧ thN ts n = thN (ts.drop p.1) p.2.2 ∧ p.2.1.length = p.1 ∧ p.2.2 ≤ n + p.1 },
    fun p => St [(3, vT ts), (4, .sc (.int .i64 p.1.2.2)), (10, .pp (.loc 10) 0), (12, .pp (.loc 12) 0), (13, .sc (.int .i64 p.1.1))]
      [(10, .cells 0 [.sc (.int .i64 0), .sc (.string ⟨#[]⟩), .sc (.int .i64 0), .sc (.slice none 0 0)]), (12, .cells 0 [.sc (.int .i64 kind), .sc (.string pred), .sc (.int .i64 op), .vec true 4 p.1.2.1.length (p.1.2.1.flatMap cTh)])] [],
    fun p => ts.length - p.1.1, ⟨(0, [], n), rfl, rfl, rfl, Nat.le_refl _⟩, ?_, ?_⟩
  · exact wk_of ⟨avle_refl _, avle_refl _, avle_refl _, avle_refl _, avle_refl _, trivial⟩ ⟨oble_refl _, oble_cells ⟨avle_refl _, avle_refl _, avle_refl _, avle_nil _ _, trivial⟩, trivial⟩ rfl ⟨trivial, trivial, trivial, trivial, trivial, trivial⟩
  rintro ⟨⟨i, out, k⟩, h1, h2, h3, h4⟩
  simp only at h1 h2 h3 h4
  conv => whnf
  split
  · rename_i hlt
    have hlt : i < ts.length := by simpa using hlt
    have hwrap : IntKind.i64.wrap ((i : Int) + 1) = ((i + 1 : Nat) : Int) := (wrap_small _ (by omega) (by omega)).trans (by omega)
    have hwrap2 : IntKind.i64.wrap ((k : Int) + 1) = ((k + 1 : Nat) : Int) := (wrap_small _ (by omega) (by omega)).trans (by omega)
    have htk := take_cells (g := cT) (n := 4) (fun _ => rfl) ts i hlt
    have hir : (0 : Int) ≤ (i : Int) ∧ (i : Int) < ts.length := ⟨Int.natCast_nonneg _, Int.ofNat_lt.2 hlt⟩
    rw [thP_drop _ _ _ hlt] at h1
    rw [thN_drop _ _ _ hlt] at h2
    generalize ts[i] = t at h1 h2 htk
    conv => whnf
    refine ⟨hir, _, htk, ?_⟩
    conv => whnf
    split
    · rename_i e
      have e : decide (t.kind = 4) = true := e
      conv => whnf
      split
      · rename_i e2
        have e2 : decide (t.text = usB) = true := e2
        have ea : anon t = true := by simp only [anon, isVar, e, e2]; rfl
        rw [if_pos ea] at h1 h2
        rw [← List.append_cons_assoc'] at h1
        conv => whnf
        refine ⟨⟨by show out.length + 1 ≤ _; omega, by show (out.length + 1) * 40 ≤ _; omega, rfl⟩, ?_⟩
        conv => whnf
        exact ⟨⟨(i + 1, out ++ [⟨t.kind, t.num, t.text, (k + 1 : Nat)⟩], k + 1), h1, h2, by simp [h3], by show k + 1 ≤ n + (i + 1); omega⟩,
          wk_of ⟨avle_refl _, avle_int hwrap2, avle_refl _, avle_refl _, avle_int hwrap, trivial⟩ ⟨oble_refl _, oble_cells ⟨avle_refl _, avle_refl _, avle_refl _, avle_eq (by rw [vTho_app]; rw [← hwrap2]; rfl), trivial⟩, trivial⟩ rfl ⟨trivial, trivial, trivial, trivial, trivial, trivial⟩, Nat.sub_lt_sub_left hlt (Nat.lt_succ_self i)⟩
      · rename_i e2
        have e2 : decide (t.text = usB) = false := e2
        have ea : anon t = false := by simp only [anon, isVar, e, e2]; rfl
        rw [if_neg (by rw [ea]; decide)] at h1 h2
        rw [← List.append_cons_assoc'] at h1
        conv => whnf
        refine ⟨⟨by show out.length + 1 ≤ _; omega, by show (out.length + 1) * 40 ≤ _; omega, rfl⟩, ?_⟩
        conv => whnf
        exact ⟨⟨(i + 1, out ++ [⟨t.kind, t.num, t.text, 0⟩], k), h1, h2, by simp [h3], by show k ≤ n + (i + 1); omega⟩,
          wk_of ⟨avle_refl _, avle_refl _, avle_refl _, avle_refl _, avle_int hwrap, trivial⟩ ⟨oble_refl _, oble_cells ⟨avle_refl _, avle_refl _, avle_refl _, avle_eq (vTho_app _ _), trivial⟩, trivial⟩ rfl ⟨trivial, trivial, trivial, trivial, trivial, trivial⟩, Nat.sub_lt_sub_left hlt (Nat.lt_succ_self i)⟩
    · rename_i e
      have e : decide (t.kind = 4) = false := e
      have ea : anon t = false := by simp only [anon, isVar, e]; rfl
      rw [if_neg (by rw [ea]; decide)] at h1 h2
      rw [← List.append_cons_assoc'] at h1
      conv => whnf
      refine ⟨⟨by show out.length + 1 ≤ _; omega, by show (out.length + 1) * 40 ≤ _; omega, rfl⟩, ?_⟩
      conv => whnf
      exact ⟨⟨(i + 1, out ++ [⟨t.kind, t.num, t.text, 0⟩], k), h1, h2, by simp [h3], by show k ≤ n + (i + 1); omega⟩,
        wk_of ⟨avle_refl _, avle_refl _, avle_refl _, avle_refl _, avle_int hwrap, trivial⟩ ⟨oble_refl _, oble_cells ⟨avle_refl _, avle_refl _, avle_refl _, avle_eq (vTho_app _ _), trivial⟩, trivial⟩ rfl ⟨trivial, trivial, trivial, trivial, trivial, trivial⟩, Nat.sub_lt_sub_left hlt (Nat.lt_succ_self i)⟩
  · rename_i hlt
    have hlt : ts.length ≤ i := by simpa using hlt
    rw [List.drop_of_length_le hlt] at h1 h2
    have h1 : thP ts n = out := by rw [h1]; simp [thP]
    have h2 : thN ts n = k := h2
    have hres : AV.tup [.agg [.sc (.int .i64 kind), .sc (.string pred), .sc (.int .i64 op), .vec false 4 out.length (out.flatMap cTh)], .sc (.int .i64 k)] = partV kind pred op ts n := by rw [← h1, ← h2]; rfl
    conv => whnf
    exact ⟨(congrArg nr hres).trans (nr_partV _ _ _ _ _), hres⟩
def partL (l : Lt) (n : Nat) : Pt := ⟨l.kind, if l.kind = 3 then ⟨#[]⟩ else l.atom.pred, if l.kind = 3 then l.op else 0, thP (termsL l) n⟩
def flatB : List Lt → Nat → List Pt
  | [], _ => []
  | l :: r, n => partL l n :: flatB r (thN (termsL l) n)
def flatP (c : Cl) : List Pt := ⟨0, c.head.pred, 0, thP c.head.args 0⟩ :: flatB c.body (thN c.head.args 0)
theorem flatB_drop (ls : List Lt) (i n : Nat) (h : i < ls.length) : flatB (ls.drop i) n = partL ls[i] n :: flatB (ls.drop (i + 1)) (thN (termsL ls[i]) n) := by
  rw [List.drop_eq_getElem_cons h]; rfl
theorem flatB_len : ∀ (ls : List Lt) (n : Nat), (flatB ls n).length = ls.length
  | [], _ => rfl
  | l :: r, n => by simp [flatB, flatB_len r]
set_option maxHeartbeats 1000000 in
theorem ok54 (c : Cl) (hl : (allT c).length ≤ 1000000) (hb : c.body.length ≤ 1000000) : POk 54 [aCl c] (vP (flatP c)) := by
  refine POk.of_v ?_ (nrL_flat nrL_cP _)
  refine fn_ok mixed (En_ok _ _ _ _) (pl := fun _ => []) (fn := Go.Proofs.Tryz.f54) (c := _) (by kernel_rfl) rfl (by decide) (by kernel_rfl) (E := E0) ?_
  have hla : c.head.args.length + (c.body.flatMap termsL).length ≤ 1000000 := by simpa [allT] using hl
  have hn0 := thN_le c.head.args 0
  conv => whnf
  refine use_pure (ok77 0 c.head.pred 0 c.head.args 0 (by omega) (by omega)) (nrL5 rfl rfl rfl (nr_vT _) rfl) ⟨rfl, ?_⟩
  conv => whnf
  refine ⟨⟨by decide, by show 1 * 56 ≤ _; decide⟩, ?_⟩
  conv => whnf
  refine ⟨{ p : Nat × List Pt × Nat // flatP c = p.2.1 ++ flatB (c.body.drop p.1) p.2.2 ∧ p.2.2 + ((c.body.drop p.1).flatMap termsL).length ≤ 1000000 ∧ p.2.1.length = p.1 + 1 },
    fun p => St [(1, .pp (.loc 1) 0), (3, vPo p.1.2.1), (4, .pp (.loc 4) 0), (5, .sc (.int .i64 p.1.2.2)), (6, .sc (.int .i64 p.1.1))] [(1, .cells 0 (cC c)), (4, .cells 0 [.undef, .undef, .undef, .undef])] [],
    fun p => c.body.length - p.1.1, ⟨(0, [⟨0, c.head.pred, 0, thP c.head.args 0⟩], thN c.head.args 0), rfl, by simp only [List.drop_zero]; omega, rfl⟩, ?_, ?_⟩
  · exact wk_of ⟨avle_refl _, avle_refl _, avle_refl _, avle_refl _, avle_refl _, trivial⟩ ⟨oble_refl _, oble_cells ⟨avle_undef _, avle_undef _, avle_undef _, avle_undef _, trivial⟩, trivial⟩ rfl ⟨trivial, trivial, trivial, trivial, trivial, trivial⟩
  rintro ⟨⟨i, out, n⟩, h1, h2, h3⟩
  simp only at h1 h2 h3
  conv => whnf
  split
  · rename_i hlt
    have hlt : i < c.body.length := by simpa using hlt
    have hwrap : IntKind.i64.wrap ((i : Int) + 1) = ((i + 1 : Nat) : Int) := (wrap_small _ (by omega) (by omega)).trans (by omega)
    have htk := take_cells (g := cL) (n := 14) (fun _ => rfl) c.body i hlt
    have hir : (0 : Int) ≤ (i : Int) ∧ (i : Int) < c.body.length := ⟨Int.natCast_nonneg _, Int.ofNat_lt.2 hlt⟩
    rw [flatB_drop _ _ _ hlt, ← List.append_cons_assoc'] at h1
    rw [flat_drop _ _ _ hlt, List.length_append] at h2
    generalize c.body[i] = m at h1 h2 htk
    have hn := thN_le (termsL m) n
    have hp : ∀ (k : Int) (s : ByteArray) (o : Int), partL m n = ⟨k, s, o, thP (termsL m) n⟩ → vPo (out ++ [partL m n]) = .vec true 4 (out.length + 1) (out.flatMap cP ++ cP ⟨k, s, o, thP (termsL m) n⟩) := by
      intro k s o e
      rw [vPo_app, e]; simp
    conv => whnf
    refine ⟨hir, _, htk, ?_⟩
    conv => whnf
    split
    · rename_i e
      have e : decide (m.kind = 3) = true := e
      have e3 : m.kind = 3 := of_decide_eq_true e
      have e2 : termsL m = [m.left, m.right] := by simp [termsL, e3]
      have e4 : partL m n = ⟨3, ⟨#[]⟩, m.op, thP (termsL m) n⟩ := by simp [partL, e3]
      have hpp := hp _ _ _ e4
      rw [e2] at hpp h2 hn
      conv => whnf
      refine use_pure (ok77 3 ⟨#[]⟩ m.op [m.left, m.right] n (by simp) (by omega)) (nrL5 rfl rfl rfl (nr_vT [m.left, m.right]) rfl) ⟨rfl, ?_⟩
      conv => whnf
      refine ⟨⟨by show out.length + 1 ≤ _; omega, by show (out.length + 1) * 56 ≤ _; omega, rfl⟩, ?_⟩
      conv => whnf
      exact ⟨⟨(i + 1, out ++ [partL m n], thN [m.left, m.right] n), by rw [h1, e2], by show thN [m.left, m.right] n + ((c.body.drop (i + 1)).flatMap termsL).length ≤ 1000000; omega, by simp [h3]⟩,
        wk_of ⟨avle_refl _, avle_eq hpp, avle_refl _, avle_refl _, avle_int hwrap, trivial⟩ ⟨oble_refl _, oble_cells ⟨avle_undef _, avle_undef _, avle_undef _, avle_undef _, trivial⟩, trivial⟩ rfl ⟨trivial, trivial, trivial, trivial, trivial, trivial⟩, Nat.sub_lt_sub_left hlt (Nat.lt_succ_self i)⟩
    · rename_i e
      have e : decide (m.kind = 3) = false := e
      have e3 : ¬ m.kind = 3 := of_decide_eq_false e
      have e2 : termsL m = m.atom.args := by simp [termsL, e3]
      have e4 : partL m n = ⟨m.kind, m.atom.pred, 0, thP (termsL m) n⟩ := by simp [partL, e3]
      have hpp := hp _ _ _ e4
      rw [e2] at hpp h2 hn
      conv => whnf
      refine use_pure (ok77 m.kind m.atom.pred 0 m.atom.args n (by omega) (by omega)) (nrL5 rfl rfl rfl (nr_vT _) rfl) ⟨rfl, ?_⟩
      conv => whnf
      refine ⟨⟨by show out.length + 1 ≤ _; omega, by show (out.length + 1) * 56 ≤ _; omega, rfl⟩, ?_⟩
      conv => whnf
      exact ⟨⟨(i + 1, out ++ [partL m n], thN m.atom.args n), by rw [h1, e2], by show thN m.atom.args n + ((c.body.drop (i + 1)).flatMap termsL).length ≤ 1000000; omega, by simp [h3]⟩,
        wk_of ⟨avle_refl _, avle_eq hpp, avle_refl _, avle_refl _, avle_int hwrap, trivial⟩ ⟨oble_refl _, oble_cells ⟨avle_undef _, avle_undef _, avle_undef _, avle_undef _, trivial⟩, trivial⟩ rfl ⟨trivial, trivial, trivial, trivial, trivial, trivial⟩, Nat.sub_lt_sub_left hlt (Nat.lt_succ_self i)⟩
  · rename_i hlt
    have hlt : c.body.length ≤ i := by simpa using hlt
    rw [List.drop_of_length_le hlt] at h1
    have h1 : flatP c = out := by rw [h1]; simp [flatB]
    have hres : avle (.vec false 4 out.length (out.flatMap cP)) (vP (flatP c)) := by rw [h1]; exact avle_refl _
    conv => whnf
    exact hres
end Go.Proofs.YtjchgncgkhofhaaGreat.AL
/- The program's functions in abstract words: ways (edictref18). -/
set_option linter.unusedVariables false
namespace Go.Proofs.YtjchgncgkhofhaaGreat.AL
open Go

theorem avleL_getD : ∀ {xs ys : List AV}, avleL xs ys → ∀ t, avle (xs.getD t .undef) (ys.getD t .undef)
  | [], [], _, t => .inl rfl
  | x :: xs, y :: ys, h, 0 => h.1
  | x :: xs, y :: ys, h, t + 1 => by simpa using avleL_getD h.2 t
  | [], _ :: _, h, _ => h.elim
  | _ :: _, [], h, _ => h.elim
theorem avleL_len : ∀ {xs ys : List AV}, avleL xs ys → xs.length = ys.length
  | [], [], _ => rfl
  | x :: xs, y :: ys, h => by simp [avleL_len h.2]
  | [], _ :: _, h => h.elim
  | _ :: _, [], h => h.elim
theorem RL_wk {c : Wz} : ∀ {xs ys : List AV} {us : List Value}, avleL xs ys → RL c xs us → RL c ys us
  | [], [], us, _, h => h
  | x :: xs, y :: ys, us, h, k => by
    cases us with
    | nil => exact absurd k (by simp [RL])
    | cons u r => exact RL_cons.2 ⟨avle_R h.1 (RL_cons.1 k).1, RL_wk h.2 (RL_cons.1 k).2⟩
  | [], _ :: _, _, h, _ => h.elim
  | _ :: _, [], _, h, _ => h.elim
/-- A call answers the same to arguments of which more is told. -/
theorem CallOk.arg {P : Program} {g : FuncId} {args args' : List AV} {gs : List AObj} {Q : AV → List AObj → Prop} (h : CallOk P g args' gs Q) (hle : avleL args args') (hok : args'.all okv = true) : CallOk P g args gs Q := by
  intro w G ow L vs hl hr
  have hp : ∀ t, okv (argF args' t) = true := by
    intro t
    unfold argF
    rw [List.getD_eq_getElem?_getD]
    cases e : args'[t]? with
    | none => rfl
    | some x => exact (List.all_eq_true.1 hok) x (List.mem_of_getElem? e)
  refine h w G ow L vs (by rw [hl, avleL_len hle]) (HRel.weaken (st := ⟨argF args, deadM gs⟩) (st0 := ⟨argF args', deadM gs⟩) ⟨fun t => avleL_getD hle t, fun p => trivial, rfl, fun i o o0 e1 e2 => ?_, fun t q hq => ?_⟩ hr)
  · have e1 : gs[i]? = some o := e1
    have e2 : gs[i]? = some o0 := e2
    rw [e1] at e2; injection e2 with e2; subst e2; exact oble_refl o
  · have := hp t
    rcases hq with ⟨off, hq⟩ | hq
    · have hq : argF args' t = .pp (.loc q) off := hq
      rw [hq] at this; cases this
    · have hq : argF args' t = .mp (.loc q) := hq
      rw [hq] at this; cases this
theorem POk.arg {g : FuncId} {args args' : List AV} {r : AV} (h : POk g args' r) (hle : avleL args args') (hok : args'.all okv = true) : POk g args r := ⟨h.1, h.2.arg hle hok⟩
/-- A call that answers several values, told as less. -/
def POkT (g : FuncId) (args : List AV) (vs : List AV) : Prop := PlainFn prg g ∧ CallOk prg g args [] fun v _ => ∃ xs, v = .tup xs ∧ avleL xs vs
theorem POk.of_t {g : FuncId} {args : List AV} {vs : List AV} (h : POkT g args vs) (hn : nrL vs = true) : POk g args (.tup vs) := by
  refine ⟨h.1, fun w G ow L us hl hr => ?_⟩
  refine (h.2 w G ow L us hl hr).mono fun e w' ⟨v, av, gs', G', ow', L', h1, ⟨xs, hx, h2⟩, h3, h4⟩ => ?_
  subst hx
  refine ⟨v, .tup vs, gs', G', ow', L', h1, ⟨hn, rfl⟩, ?_, h4⟩
  have h5 := h3.sl 0
  have h6 : R (G'.wz w') (.tup xs) v := by simpa [resF, resV, upd, RS] using h5
  have h7 : R (G'.wz w') (.tup vs) v := by
    simp only [R] at h6 ⊢
    obtain ⟨us, e1, e2⟩ := h6
    exact ⟨us, e1, RL_wk h2 e2⟩
  have h8 := h3.set 0 (x := .tup vs) (v := v) (by simpa [RS] using h7) trivial
  have e1 : upd (resF (.tup xs)) 0 (.tup vs) = resF (.tup vs) := by funext t; unfold resF upd; split <;> rfl
  have e2 : upd (resV v) 0 v = resV v := by funext t; unfold resV upd; split <;> rfl
  rw [e1, e2] at h8; exact h8

attribute [local irreducible] PlainFn CallOk
abbrev Way := List (Th × Th)
def cW (p : Th × Th) : List AV := cTh p.1 ++ cTh p.2
def vW (w : Way) : AV := .vec false 8 w.length (w.flatMap cW)
def vWo (w : Way) : AV := .vec true 8 w.length (w.flatMap cW)
theorem nr_vW (w : Way) : nr (vW w) = true := nrL_flat (fun _ => rfl) w
theorem okc_W (l : Way) : (l.flatMap cW).all okc = true := okc_flat (fun _ => rfl) l
theorem vWo_app (a b : Way) : vWo (a ++ b) = .vec true 8 (a.length + b.length) (a.flatMap cW ++ b.flatMap cW) := by simp [vWo]
theorem vWo_nil (a : Way) : vWo a = .vec true 8 (0 + a.length) ([] ++ a.flatMap cW) := by rw [Nat.zero_add]; rfl
/-- edictref18.stands -/
def standsP (w : Way) (a : Th) : Option Th := match w with
  | [] => none
  | p :: r => if p.1 = a then some p.2 else standsP r a
theorem stands_drop (w : Way) (a : Th) (i : Nat) (h : i < w.length) : standsP (w.drop i) a = if w[i].1 = a then some w[i].2 else standsP (w.drop (i + 1)) a := by
  rw [List.drop_eq_getElem_cons h]; rfl
def zTh : Th := ⟨0, 0, ⟨#[]⟩, 0⟩
def standsV (o : Option Th) : AV := .tup [aTh (o.getD zTh), .sc (.bool o.isSome)]
theorem ok79 (w : Way) (a : Th) (hl : w.length ≤ 1000000) : POk 79 [vW w, aTh a] (standsV (standsP w a)) := by
  refine fn_ok mixed (En_ok _ _ _ _) (pl := fun _ => (List.range 7).map Pl.one) (fn := Go.Proofs.Tryz.f79) (c := _) (by kernel_rfl) rfl (by decide) (by kernel_rfl) (E := E0) ?_
  conv => whnf
  refine ⟨{ i : Nat // standsP w a = standsP (w.drop i) a }, fun i => St [(0, vW w), (3, .pp (.loc 3) 0), (4, .pp (.loc 4) 0), (6, .sc (.int .i64 i.1))] [(3, .cells 0 (cTh a)), (4, .cells 0 (cTh zTh))] [], fun i => w.length - i.1, ⟨0, rfl⟩, ?_, ?_⟩
  · exact wk_of ⟨avle_refl _, avle_refl _, avle_refl _, avle_refl _, trivial⟩ ⟨oble_refl _, oble_refl _, trivial⟩ rfl ⟨trivial, trivial, trivial, trivial, trivial⟩
  rintro ⟨i, hinv⟩
  conv => whnf
  split
  case h_2 =>
    rename_i hlt
    have hlt : w.length ≤ i := by simpa using hlt
    rw [List.drop_of_length_le hlt] at hinv
    have hinv : standsP w a = none := hinv
    have hres : AV.tup [aTh zTh, .sc (.bool false)] = standsV (standsP w a) := by rw [hinv]; rfl
    conv => whnf
    exact ⟨rfl, hres⟩
  rename_i hlt
  have hlt : i < w.length := by simpa using hlt
  have hwrap : IntKind.i64.wrap ((i : Int) + 1) = ((i + 1 : Nat) : Int) := (wrap_small _ (by omega) (by omega)).trans (by omega)
  rw [stands_drop _ _ _ hlt] at hinv
  have htk := take_cells (g := cW) (n := 8) (fun _ => rfl) w i hlt
  have hir : (0 : Int) ≤ (i : Int) ∧ (i : Int) < w.length := ⟨Int.natCast_nonneg _, Int.ofNat_lt.2 hlt⟩
  generalize w[i] = p at hinv htk
  obtain ⟨x, y⟩ := p
  simp only at hinv
  conv => whnf
  refine And.intro (by kernel_rfl) ?_
  conv => whnf
  refine ⟨hir, _, htk, ?_⟩
  conv => whnf
  refine use_ex (ok78 x a) rfl ⟨rfl, ?_⟩
  conv => whnf
  split
  · rename_i e
    have e : decide (x = a) = true := e
    rw [if_pos (of_decide_eq_true e)] at hinv
    have hres : AV.tup [aTh y, .sc (.bool true)] = standsV (standsP w a) := by rw [hinv]; rfl
    conv => whnf
    refine ⟨hir, _, htk, ?_⟩
    conv => whnf
    exact ⟨rfl, hres⟩
  · rename_i e
    have e : decide (x = a) = false := e
    rw [if_neg (of_decide_eq_false e)] at hinv
    conv => whnf
    exact ⟨⟨i + 1, hinv⟩, wk_of ⟨avle_refl _, avle_refl _, avle_refl _, avle_int hwrap, trivial⟩ ⟨oble_refl _, oble_refl _, trivial⟩ rfl ⟨trivial, trivial, trivial, trivial, trivial⟩, Nat.sub_lt_sub_left hlt (Nat.lt_succ_self i)⟩
end Go.Proofs.YtjchgncgkhofhaaGreat.AL
