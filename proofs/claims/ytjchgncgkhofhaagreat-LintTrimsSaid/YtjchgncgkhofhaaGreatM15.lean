/- The program's functions in abstract words: lint.covers. -/
import Derived.Test.YtjchgncgkhofhaaGreatM14
set_option linter.unusedVariables false
namespace Go.Proofs.YtjchgncgkhofhaaGreat.AL
open Go
attribute [local irreducible] PlainFn CallOk

def obleL : List AObj → List AObj → Prop
  | [], [] => True
  | x :: xs, y :: ys => oble x y ∧ obleL xs ys
  | _, _ => False
theorem obleL_get : ∀ {xs ys : List AObj}, obleL xs ys → ys.length = xs.length ∧ ∀ (i : Nat) (o o0 : AObj), xs[i]? = some o → ys[i]? = some o0 → oble o o0
  | [], [], _ => ⟨rfl, fun i o o0 h => by simp at h⟩
  | x :: xs, y :: ys, h => by
    obtain ⟨h1, h2⟩ := obleL_get h.2
    refine ⟨by simp [h1], fun i o o0 k1 k2 => ?_⟩
    cases i with
    | zero => simp at k1 k2; subst k1; subst k2; exact h.1
    | succ i => exact h2 i o o0 (by simpa using k1) (by simpa using k2)
  | [], _ :: _, h => h.elim
  | _ :: _, [], h => h.elim
theorem wk_of2 {st : ASt} {l : List (Nat × AV)} {b : List (Nat × AObj)} {gs : List AObj} (h1 : wkl st.f l) (h2 : wkb st.m.bx b) (h3 : obleL st.m.gs gs) (h4 : ptrs (ofB b) l) : wk st (St l b gs) := by
  have w := wk_of (gs := st.m.gs) h1 h2 rfl h4
  obtain ⟨k1, k2⟩ := obleL_get h3
  exact ⟨w.f, w.b, k1, fun i o o0 q1 q2 => k2 i o o0 q1 q2, w.p⟩
def btP : List Lt → Nat → List (List Th)
  | [], _ => []
  | l :: r, n => thP (termsL l) n :: btP r (thN (termsL l) n)
theorem btP_drop (ls : List Lt) (i n : Nat) (h : i < ls.length) : btP (ls.drop i) n = thP (termsL ls[i]) n :: btP (ls.drop (i + 1)) (thN (termsL ls[i]) n) := by
  rw [List.drop_eq_getElem_cons h]; rfl
theorem btP_len : ∀ (ls : List Lt) (n : Nat), (btP ls n).length = ls.length
  | [], _ => rfl
  | l :: r, n => by simp [btP, btP_len r]
theorem btP_zip : ∀ (ls : List Lt) (n : Nat), ∀ p ∈ ls.zip (btP ls n), p.2.length = (termsL p.1).length
  | [], _, p, h => by cases h
  | l :: r, n, p, h => by
    simp only [btP, List.zip_cons_cons] at h
    rcases List.mem_cons.1 h with rfl | h
    · exact thP_len _ _
    · exact btP_zip r _ p h
theorem vTTo_app (a : List (List Th)) (x : List Th) : vTTo (a ++ [x]) = .vec true 1 (a.length + 1) (a.flatMap cTT ++ [vTh x]) := by simp [vTTo, cTT]
/-- lint.covers -/
def covL (a b : Cl) : Bool := decide (a.body.length ≤ 6) && (decide (a.head.pred = b.head.pred) && (decide (a.head.args.length = b.head.args.length) &&
  ((takeP [] a.head.args (thP b.head.args 0) []).2.2 && placeP (b.body.zip (btP b.body (thN b.head.args 0))) a.body (takeP [] a.head.args (thP b.head.args 0) []).1)))
/-- The evaluation of covers: what its closure holds escapes. -/
noncomputable abbrev EC : Env := En (inl [2, 3, 5, 7, 56, 10, 13]) (inl [49]) (fun _ => false) (fun g => !(Nat.beq g 67 || Nat.beq g 69 || Nat.beq g 70))
/-- A plan with five ways, whatever comes behind. -/
theorem aplan_to5 {E : Env} {all : List Oper} {pl : List Pl} {st s1 s2 s3 s4 s5 : ASt} {K : ASt → Prop} (h : ∀ K' : ASt → Prop, K' s1 → K' s2 → K' s3 → K' s4 → K' s5 → aplan E all pl st K')
    (k1 : K s1) (k2 : K s2) (k3 : K s3) (k4 : K s4) (k5 : K s5) : aplan E all pl st K := h K k1 k2 k3 k4 k5
set_option maxHeartbeats 4000000 in
theorem ok41 (a b : Cl) (ha : Gd a) (hb : Gd b) : POk 41 [aCl a, aCl b] (.sc (.bool (covL a b))) := by
  have haa := ha.args
  have hba := hb.args
  have hab := ha.body
  have hbb := hb.body
  have hbl := hb.all
  refine fn_ok mixed (En_ok _ _ _ _) (pl := fun _ => [Pl.mix 0 [1, 2, 3, 4], Pl.one 5, Pl.one 6]) (fn := Go.Proofs.Tryz.f41) (c := _) (by kernel_rfl) rfl (by decide) (by kernel_rfl) (E := EC) ?_
  conv => whnf
  refine ⟨_, rfl, ?_⟩
  conv => whnf
  split
  · rename_i e
    have e : decide ((a.body.length : Int) > 6) = true := e
    have e : ¬ a.body.length ≤ 6 := by have := of_decide_eq_true e; omega
    conv => whnf
    exact ⟨rfl, avb (by simp [covL, e])⟩
  rename_i e
  have e : decide ((a.body.length : Int) > 6) = false := e
  have e : a.body.length ≤ 6 := by have := of_decide_eq_false e; omega
  conv => whnf
  refine ⟨_, rfl, ?_⟩
  conv => whnf
  refine ⟨_, rfl, ?_⟩
  conv => whnf
  split
  · rename_i e1
    have e1 : (!decide (a.head.pred = b.head.pred)) = true := e1
    have e1 : decide (a.head.pred = b.head.pred) = false := by simpa using e1
    conv => whnf
    exact ⟨rfl, avb (by simp [covL, e1])⟩
  rename_i e1
  have e1 : (!decide (a.head.pred = b.head.pred)) = false := e1
  have e1 : decide (a.head.pred = b.head.pred) = true := by simpa using e1
  conv => whnf
  refine ⟨_, rfl, ?_⟩
  conv => whnf
  refine ⟨_, rfl, ?_⟩
  conv => whnf
  split
  · rename_i e2
    have e2 : (!decide ((a.head.args.length : Int) = b.head.args.length)) = true := e2
    have e2 : ¬ a.head.args.length = b.head.args.length := by simp at e2; omega
    conv => whnf
    exact ⟨rfl, avb (by simp [covL, e2])⟩
  rename_i e2
  have e2 : (!decide ((a.head.args.length : Int) = b.head.args.length)) = false := e2
  have e2 : a.head.args.length = b.head.args.length := by simp at e2; omega
  have hcov : covL a b = ((takeP [] a.head.args (thP b.head.args 0) []).2.2 && placeP (b.body.zip (btP b.body (thN b.head.args 0))) a.body (takeP [] a.head.args (thP b.head.args 0) []).1) := by
    simp only [covL, decide_eq_true e, e1, decide_eq_true e2, Bool.true_and]
  have hn0 := thN_le b.head.args 0
  have h69 := fun (gs : List AObj) (h : gs[4]? = some (oB [])) => ok69 [] a.head.args (thP b.head.args 0) 4 gs h (by omega) (by rw [thP_len]; omega)
  generalize takeP [] a.head.args (thP b.head.args 0) [] = tk at hcov h69
  clear e1 e2
  show aops _ _ _ _ _
  refine aops_to (st' := ?s1) ?h1 ?k1
  case h1 =>
    intro K' hK'
    conv => whnf
    refine ⟨_, rfl, Nat.le_refl 1, ?_⟩
    conv => whnf
    exact hK'
  conv => whnf
  refine ⟨_, rfl, ?_⟩
  conv => whnf
  refine use_c (ok67 b.head.args 0 2 _ rfl (by omega) (by omega)) ?_
  rintro v gs' ⟨rfl, rfl⟩
  conv => whnf
  refine ⟨_, rfl, ?_⟩
  conv => whnf
  refine ⟨{ p : Nat × Nat × List (List Th) // btP b.body (thN b.head.args 0) = p.2.2 ++ btP (b.body.drop p.1) p.2.1 ∧ p.2.1 + ((b.body.drop p.1).flatMap termsL).length ≤ 1000 ∧ p.2.2.length = p.1 },
    fun p => St [(2, .pp (.obj 0) 0), (3, .pp (.obj 1) 0), (5, .pp (.obj 2) 0), (6, vTh (thP b.head.args 0)), (7, .pp (.obj 3) 0), (43, vL b.body), (44, .sc (.int .i64 b.body.length)), (45, .sc (.int .i64 p.1.1))] [] [.cells 0 (cC a), .cells 0 (cC b), oN (p.1.2.1 : Nat), .cells 0 [vTTo p.1.2.2]],
    fun p => b.body.length - p.1.1, ⟨(0, thN b.head.args 0, []), rfl, by have := hbl; simp only [allT, List.length_append] at this; simp only [List.drop_zero]; omega, rfl⟩, ?_, ?_⟩
  · exact wk_of2 ⟨avle_refl _, avle_refl _, avle_refl _, avle_refl _, avle_refl _, avle_refl _, avle_refl _, avle_refl _, trivial⟩ trivial ⟨oble_refl _, oble_refl _, oble_refl _, oble_cells ⟨avle_nil _ _, trivial⟩, trivial⟩ ⟨trivial, trivial, trivial, trivial, trivial, trivial, trivial, trivial, trivial⟩
  rintro ⟨⟨i, n, bt⟩, g1, g2, g3⟩
  simp only at g1 g2 g3
  conv => whnf
  split
  · rename_i hlt
    have hlt : i < b.body.length := by simpa using hlt
    have hwrap : IntKind.i64.wrap ((i : Int) + 1) = ((i + 1 : Nat) : Int) := (wrap_small _ (by omega) (by omega)).trans (by omega)
    have htk := take_cells (g := cL) (n := 14) (fun _ => rfl) b.body i hlt
    have hir : (0 : Int) ≤ (i : Int) ∧ (i : Int) < b.body.length := ⟨Int.natCast_nonneg _, Int.ofNat_lt.2 hlt⟩
    rw [btP_drop _ _ _ hlt, ← List.append_cons_assoc'] at g1
    rw [flat_drop _ _ _ hlt, List.length_append] at g2
    generalize b.body[i] = m at g1 g2 htk
    have hn := thN_le (termsL m) n
    have h67 := fun (gs : List AObj) (h : gs[2]? = some (oN (n : Nat))) => ok67 (termsL m) n 2 gs h (by omega) (by omega)
    have hslot : vTTo (bt ++ [thP (termsL m) n]) = .vec true 1 (bt.length + 1) (bt.flatMap cTT ++ [vTh (thP (termsL m) n)]) := vTTo_app _ _
    conv => whnf
    refine ⟨hir, _, htk, ?_⟩
    conv => whnf
    refine And.intro (by kernel_rfl) ?_
    show aplan _ _ _ _ _
    refine aplan_to5 (s1 := ?t1) (s2 := ?t2) (s3 := ?t3) (s4 := ?t4) (s5 := ?t5) ?hh ?m1 ?m2 ?m3 ?m4 ?m5
    case hh =>
      intro K' q1 q2 q3 q4 q5
      conv => whnf
      refine And.intro ?_ ?_
      · conv => whnf
        refine ⟨_, rfl, ?_⟩
        conv => whnf
        refine use_ex (ok68 m) (nr1 (nr_aL _)) ⟨rfl, ?_⟩
        conv => whnf
        refine ⟨_, _, h67 _ rfl, ?_⟩
        conv => whnf
        refine ⟨⟨by show bt.length + 1 ≤ _; omega, by show (bt.length + 1) * 24 ≤ _; omega, rfl⟩, ?_⟩
        conv => whnf
        refine ⟨_, rfl, Nat.le_refl 1, ?_⟩
        conv => whnf
        exact q1
      conv => whnf
      refine And.intro ?_ ?_
      · conv => whnf
        refine ⟨_, rfl, ?_⟩
        conv => whnf
        refine use_ex (ok68 m) (nr1 (nr_aL _)) ⟨rfl, ?_⟩
        conv => whnf
        refine ⟨_, _, h67 _ rfl, ?_⟩
        conv => whnf
        refine ⟨⟨by show bt.length + 1 ≤ _; omega, by show (bt.length + 1) * 24 ≤ _; omega, rfl⟩, ?_⟩
        conv => whnf
        refine ⟨_, rfl, Nat.le_refl 1, ?_⟩
        conv => whnf
        exact q2
      conv => whnf
      refine use_ex (ok68 m) (nr1 (nr_aL _)) ⟨rfl, ?_⟩
      conv => whnf
      refine And.intro ?_ ?_
      · conv => whnf
        refine ⟨_, rfl, ?_⟩
        conv => whnf
        refine ⟨_, _, h67 _ rfl, ?_⟩
        conv => whnf
        refine ⟨⟨by show bt.length + 1 ≤ _; omega, by show (bt.length + 1) * 24 ≤ _; omega, rfl⟩, ?_⟩
        conv => whnf
        refine ⟨_, rfl, Nat.le_refl 1, ?_⟩
        conv => whnf
        exact q3
      conv => whnf
      refine ⟨_, _, h67 _ rfl, ?_⟩
      conv => whnf
      refine And.intro ?_ ?_
      · conv => whnf
        refine ⟨_, rfl, ?_⟩
        conv => whnf
        refine ⟨⟨by show bt.length + 1 ≤ _; omega, by show (bt.length + 1) * 24 ≤ _; omega, rfl⟩, ?_⟩
        conv => whnf
        refine ⟨_, rfl, Nat.le_refl 1, ?_⟩
        conv => whnf
        exact q4
      conv => whnf
      refine ⟨_, rfl, ?_⟩
      conv => whnf
      refine ⟨⟨by show bt.length + 1 ≤ _; omega, by show (bt.length + 1) * 24 ≤ _; omega, rfl⟩, ?_⟩
      conv => whnf
      refine ⟨_, rfl, Nat.le_refl 1, ?_⟩
      conv => whnf
      exact q5
    all_goals (conv => whnf)
    all_goals (exact ⟨⟨(i + 1, thN (termsL m) n, bt ++ [thP (termsL m) n]), g1, by show thN (termsL m) n + ((b.body.drop (i + 1)).flatMap termsL).length ≤ 1000; omega, by simp [g3]⟩, wk_of2 ⟨avle_refl _, avle_refl _, avle_refl _, avle_refl _, avle_refl _, avle_refl _, avle_refl _, avle_int hwrap, trivial⟩ trivial ⟨oble_refl _, oble_refl _, oble_refl _, oble_cells ⟨avle_eq hslot, trivial⟩, trivial⟩ ⟨trivial, trivial, trivial, trivial, trivial, trivial, trivial, trivial, trivial⟩, Nat.sub_lt_sub_left hlt (Nat.lt_succ_self i)⟩)
  rename_i hlt
  have hlt : b.body.length ≤ i := by simpa using hlt
  rw [List.drop_of_length_le hlt] at g1
  have g1 : btP b.body (thN b.head.args 0) = bt := by rw [g1]; simp [btP]
  have hbtl := btP_len b.body (thN b.head.args 0)
  have hzip := btP_zip b.body (thN b.head.args 0)
  rw [g1] at hcov hbtl hzip
  have hta : ∀ l ∈ a.body, (termsL l).length ≤ 1000000 := fun l hl => by have := lit_len ((clause_zero ha.1).2.2 l hl); omega
  conv => whnf
  refine ⟨_, rfl, Nat.le_refl 1, ?_⟩
  conv => whnf
  refine ⟨_, rfl, ?_⟩
  conv => whnf
  refine ⟨_, rfl, ?_⟩
  conv => whnf
  refine use_c (h69 _ rfl) ?_
  rintro v gs' ⟨rfl, rfl⟩
  obtain ⟨s1, fr, okb⟩ := tk
  simp only at hcov
  rcases Bool.eq_false_or_eq_true okb with rfl | rfl
  case inr =>
    rw [Bool.false_and] at hcov
    conv => whnf
    exact ⟨rfl, avb hcov.symm⟩
  rw [Bool.true_and] at hcov
  conv => whnf
  refine ⟨_, rfl, Nat.le_refl 1, ?_⟩
  conv => whnf
  refine ⟨_, rfl, ?_⟩
  conv => whnf
  refine use_c (ok70 a b bt (by omega) (by omega) hbtl hta hzip a.body.length 0 s1 _ (by omega) ⟨rfl, rfl, rfl, rfl, rfl, rfl⟩) ?_
  rintro v gs' ⟨rfl, -⟩
  conv => whnf
  exact ⟨rfl, avb hcov.symm⟩
end Go.Proofs.YtjchgncgkhofhaaGreat.AL
/- The program's functions in abstract words: lint.others. -/
set_option linter.unusedVariables false
namespace Go.Proofs.YtjchgncgkhofhaaGreat.AL
open Go
attribute [local irreducible] PlainFn CallOk

def twL (p : List Cl) (i : Nat) (c : Cl) : Int := idxP (fun d => agL d c) (p.take i) 0
def cvFL (i : Nat) (c : Cl) (j : Nat) (d : Cl) : Bool := !decide (j = i) && covL d c && (decide (j < i) || !covL c d)
def cvL (p : List Cl) (i : Nat) (c : Cl) : Int := idxN (cvFL i c) p 0
set_option maxHeartbeats 2000000 in
theorem ok20 (p : List Cl) (i : Nat) (c : Cl) (hg : ∀ c ∈ p, Gd c) (hl : p.length ≤ 1000000) (hi : p[i]? = some c) : POk 20 [vC p, .sc (.int .i64 i)] (vF (othF i c (twL p i c) (cvL p i c))) := by
  obtain ⟨hil, hci⟩ := List.getElem?_eq_some_iff.1 hi
  have hgc : Gd c := by rw [← hci]; exact hg _ (List.getElem_mem hil)
  refine POk.of_v ?_ (nrL_flat (fun _ => rfl) _)
  refine fn_ok mixed (En_ok _ _ _ _) (pl := fun r => if r = 4 then (List.range 9).map Pl.one else (List.range 31).map Pl.one) (fn := Go.Proofs.Tryz.f20) (c := _) (by kernel_rfl) rfl (by decide) (by kernel_rfl) (E := E0) ?_
  have htk := take_cells (g := cC) (n := 4) (fun _ => rfl) p i hil
  rw [hci] at htk
  have hir : (0 : Int) ≤ (i : Int) ∧ (i : Int) < p.length := ⟨Int.natCast_nonneg _, Int.ofNat_lt.2 hil⟩
  clear hci
  have htw : twL p i c = idxP (fun d => agL d c) (p.take i) 0 := rfl
  have hcv : cvL p i c = idxN (cvFL i c) p 0 := rfl
  generalize twL p i c = tw at *
  generalize cvL p i c = cv at *
  conv => whnf
  refine ⟨{ j : Nat // tw = idxP (fun d => agL d c) ((p.take i).drop j) j ∧ j ≤ i }, fun j => St [(0, vC p), (1, .sc (.int .i64 i)), (7, .sc (.int .i64 i)), (8, .sc (.int .i64 j.1))] [] [], fun j => i - j.1, ⟨0, htw, Nat.zero_le _⟩, ?_, ?_⟩
  · exact wk_of ⟨avle_refl _, avle_refl _, avle_refl _, avle_refl _, trivial⟩ trivial rfl ⟨trivial, trivial, trivial, trivial, trivial⟩
  rintro ⟨j, hinv, hji⟩
  conv => whnf
  split
  · rename_i hlt
    have hlt : j < i := by simpa using hlt
    have hjl : j < p.length := by omega
    have hjt : j < (p.take i).length := by simp; omega
    have hwrap : IntKind.i64.wrap ((j : Int) + 1) = ((j + 1 : Nat) : Int) := (wrap_small _ (by omega) (by omega)).trans (by omega)
    rw [idx_drop _ _ _ hjt, List.getElem_take] at hinv
    have htk2 := take_cells (g := cC) (n := 4) (fun _ => rfl) p j hjl
    have hir2 : (0 : Int) ≤ (j : Int) ∧ (j : Int) < p.length := ⟨Int.natCast_nonneg _, Int.ofNat_lt.2 hjl⟩
    have hgd := hg p[j] (List.getElem_mem hjl)
    generalize p[j] = d at hinv htk2 hgd
    have h40 := ok40 d c hgd hgc
    generalize agL d c = ag at hinv h40
    conv => whnf
    refine And.intro (by kernel_rfl) ?_
    conv => whnf
    refine ⟨hir2, _, htk2, ?_⟩
    conv => whnf
    refine ⟨hir, _, htk, ?_⟩
    conv => whnf
    refine use_ex h40 (nr2 (nr_aCl _) (nr_aCl _)) ⟨rfl, ?_⟩
    rcases Bool.eq_false_or_eq_true ag with rfl | rfl
    · rw [if_pos rfl] at hinv
      have hoth : othF i c tw cv = [⟨1, i, (j : Int), c.head.off, noB⟩] := by rw [hinv, othF, if_pos (Int.natCast_nonneg _)]
      have hres : avle (.vec true 5 1 (cF ⟨1, i, (j : Int), c.head.off, noB⟩)) (vF (othF i c tw cv)) := by rw [hoth]; exact avle_dm'
      conv => whnf
      refine ⟨hir, _, htk, ?_⟩
      conv => whnf
      exact hres
    · rw [if_neg (by decide)] at hinv
      conv => whnf
      exact ⟨⟨j + 1, hinv, hlt⟩, wk_of ⟨avle_refl _, avle_refl _, avle_refl _, avle_int hwrap, trivial⟩ trivial rfl ⟨trivial, trivial, trivial, trivial, trivial⟩, Nat.sub_lt_sub_left hlt (Nat.lt_succ_self j)⟩
  rename_i hlt
  have hlt : i ≤ j := by simpa using hlt
  rw [List.drop_of_length_le (by simp; omega)] at hinv
  have hinv : tw = -1 := hinv
  have hoth0 : othF i c tw cv = if cv ≥ 0 then [⟨2, i, cv, c.head.off, noB⟩] else [] := by rw [othF, if_neg (by omega)]
  conv => whnf
  refine ⟨{ j : Nat // cv = idxN (cvFL i c) (p.drop j) j }, fun j => St [(0, vC p), (1, .sc (.int .i64 i)), (32, .sc (.int .i64 p.length)), (33, .sc (.int .i64 j.1))] [] [], fun j => p.length - j.1, ⟨0, hcv⟩, ?_, ?_⟩
  · exact wk_of ⟨avle_refl _, avle_refl _, avle_refl _, avle_refl _, trivial⟩ trivial rfl ⟨trivial, trivial, trivial, trivial, trivial⟩
  rintro ⟨j, hinv2⟩
  conv => whnf
  split
  case h_2 =>
    rename_i hlt
    have hlt : p.length ≤ j := by simpa using hlt
    rw [List.drop_of_length_le hlt] at hinv2
    have hinv2 : cv = -1 := hinv2
    have hres : avle (.sc (.slice none 0 0)) (vF (othF i c tw cv)) := by rw [hoth0, if_neg (by omega)]; exact avle_nil _ _
    conv => whnf
    exact hres
  rename_i hlt
  have hlt : j < p.length := by simpa using hlt
  have hwrap : IntKind.i64.wrap ((j : Int) + 1) = ((j + 1 : Nat) : Int) := (wrap_small _ (by omega) (by omega)).trans (by omega)
  rw [idxN_drop _ _ _ hlt] at hinv2
  have htk2 := take_cells (g := cC) (n := 4) (fun _ => rfl) p j hlt
  have hir2 : (0 : Int) ≤ (j : Int) ∧ (j : Int) < p.length := ⟨Int.natCast_nonneg _, Int.ofNat_lt.2 hlt⟩
  have hgd := hg p[j] (List.getElem_mem hlt)
  generalize p[j] = d at hinv2 htk2 hgd
  have next : cvFL i c j d = false → cv = idxN (cvFL i c) (p.drop (j + 1)) (j + 1) := fun e => by rw [hinv2, if_neg (by rw [e]; decide)]
  have stop : cvFL i c j d = true → avle (.vec true 5 1 (cF ⟨2, i, (j : Int), c.head.off, noB⟩)) (vF (othF i c tw cv)) := fun e => by
    rw [if_pos e] at hinv2
    rw [hoth0, hinv2, if_pos (Int.natCast_nonneg _)]; exact avle_dm'
  have h1 := ok41 d c hgd hgc
  have h2 := ok41 c d hgc hgd
  unfold cvFL at next stop
  generalize covL d c = v1 at next stop h1
  generalize covL c d = v2 at next stop h2
  conv => whnf
  refine And.intro (by kernel_rfl) ?_
  conv => whnf
  split
  case h_2 =>
    rename_i e
    have e : (!decide ((j : Int) = i)) = false := e
    have e : j = i := by have : (j : Int) = i := by simpa using e
                         omega
    have hn := next (by simp [e])
    conv => whnf
    exact ⟨⟨j + 1, hn⟩, wk_of ⟨avle_refl _, avle_refl _, avle_refl _, avle_int hwrap, trivial⟩ trivial rfl ⟨trivial, trivial, trivial, trivial, trivial⟩, Nat.sub_lt_sub_left hlt (Nat.lt_succ_self j)⟩
  rename_i e
  have e : (!decide ((j : Int) = i)) = true := e
  have e : ¬ j = i := by have : ¬ (j : Int) = i := by simpa using e
                         omega
  conv => whnf
  refine ⟨hir2, _, htk2, ?_⟩
  conv => whnf
  refine ⟨hir, _, htk, ?_⟩
  conv => whnf
  refine use_ex h1 (nr2 (nr_aCl _) (nr_aCl _)) ⟨rfl, ?_⟩
  rcases Bool.eq_false_or_eq_true v1 with rfl | rfl
  case inr =>
    have hn := next (by simp)
    conv => whnf
    exact ⟨⟨j + 1, hn⟩, wk_of ⟨avle_refl _, avle_refl _, avle_refl _, avle_int hwrap, trivial⟩ trivial rfl ⟨trivial, trivial, trivial, trivial, trivial⟩, Nat.sub_lt_sub_left hlt (Nat.lt_succ_self j)⟩
  conv => whnf
  split
  · rename_i e4
    have e4 : decide ((j : Int) < i) = true := e4
    have e4 : j < i := by have := of_decide_eq_true e4; omega
    have hs := stop (by simp [e, e4])
    conv => whnf
    refine ⟨hir, _, htk, ?_⟩
    conv => whnf
    exact hs
  rename_i e4
  have e4 : decide ((j : Int) < i) = false := e4
  have e4 : ¬ j < i := by have := of_decide_eq_false e4; omega
  conv => whnf
  refine ⟨hir, _, htk, ?_⟩
  conv => whnf
  refine ⟨hir2, _, htk2, ?_⟩
  conv => whnf
  refine use_ex h2 (nr2 (nr_aCl _) (nr_aCl _)) ⟨rfl, ?_⟩
  rcases Bool.eq_false_or_eq_true v2 with rfl | rfl
  · have hn := next (by simp [e4])
    conv => whnf
    exact ⟨⟨j + 1, hn⟩, wk_of ⟨avle_refl _, avle_refl _, avle_refl _, avle_int hwrap, trivial⟩ trivial rfl ⟨trivial, trivial, trivial, trivial, trivial⟩, Nat.sub_lt_sub_left hlt (Nat.lt_succ_self j)⟩
  · have hs := stop (by simp [e])
    conv => whnf
    refine ⟨hir, _, htk, ?_⟩
    conv => whnf
    exact hs
end Go.Proofs.YtjchgncgkhofhaaGreat.AL
/- The program's functions in abstract words: lint.Look. -/
set_option linter.unusedVariables false
namespace Go.Proofs.YtjchgncgkhofhaaGreat.AL
open Go
attribute [local irreducible] PlainFn CallOk

def cntL (s : ByteArray) (ls : List Lt) : Nat := (ls.filter (namesL s)).length
theorem cntL_cons (s : ByteArray) (l : Lt) (r : List Lt) : cntL s (l :: r) = (if namesL s l = true then 1 else 0) + cntL s r := by
  unfold cntL; rw [List.filter_cons]; split <;> simp <;> omega
theorem cntL_zero (s : ByteArray) (p : List Cl) : cntL s (p.flatMap (·.body)) = 0 ↔ namedP p s = false := by
  unfold cntL namedP
  rw [List.length_eq_zero_iff, List.filter_eq_nil_iff, Bool.eq_false_iff, ne_eq, List.any_eq_true]
  constructor
  · rintro h ⟨c, hc, hn⟩
    obtain ⟨l, hl, hl2⟩ := List.any_eq_true.1 hn
    exact h l (List.mem_flatMap.2 ⟨c, hc, hl⟩) hl2
  · intro h l hl hn
    obtain ⟨c, hc, hl2⟩ := List.mem_flatMap.1 hl
    exact h ⟨c, hc, List.any_eq_true.2 ⟨l, hl2, hn⟩⟩
theorem body_sum (p : List Cl) (h : ∀ c ∈ p, c.body.length ≤ 16) : (p.flatMap (·.body)).length ≤ p.length * 16 := by
  induction p with
  | nil => simp
  | cons c r ih =>
    have h1 := h c (by simp)
    have h2 := ih fun x hx => h x (by simp [hx])
    simp only [List.flatMap_cons, List.length_append, List.length_cons, Nat.succ_mul]; omega
def findL (p : List Cl) (i : Nat) (c : Cl) : List Fd := findG i c (twL p i c) (cvL p i c) (idxP (faultL c.body) c.body 0) (fun l => (cmpdP l).1) (unusedP p i c)
/-- lint.Look -/
def lookL (p : List Cl) : List Fd := lookG (findL p) p 0
/-- What the map of uses says ahead of clause i. -/
def UseOk (p : List Cl) (i : Nat) (m : NM) : Prop := ∀ s, (namedP p s = true → getM m s ≠ 0) ∧ (namedP p s = false → getM m s = if headsP p s i = true then -1 else 0)
theorem headsP_succ (p : List Cl) (s : ByteArray) (i : Nat) (h : i < p.length) : headsP p s (i + 1) = (headsP p s i || (decide (p[i].body.length > 0) && decide (p[i].head.pred = s))) := by
  unfold headsP; exact take_any _ p i h
theorem ok7n (p : List Cl) (hw : ¬ wellP p = 0) : POk 7 [aP p] (vF []) := by
  refine vF_nil _ _ ?_
  refine fn_ok mixed (En_ok _ _ _ _) (pl := fun _ => []) (fn := Go.Proofs.Tryz.f7) (c := _) (by kernel_rfl) rfl (by decide) (by kernel_rfl) (E := E0) ?_
  conv => whnf
  refine use_pure (ok19 p) (nr1 (nr_aP _)) ⟨rfl, ?_⟩
  conv => whnf
  split
  case h_2 =>
    rename_i e
    have e : (!decide (wellP p = 0)) = false := e
    simp [hw] at e
  conv => whnf
  exact avle_nil _ _
set_option maxHeartbeats 4000000 in
theorem ok7 (p : List Cl) (hw : wellP p = 0) (hr : ∀ c ∈ p, clauseR c) : POk 7 [aP p] (vF (lookL p)) := by
  obtain ⟨hlen, hcl⟩ := well_zero hw
  have hg : ∀ c ∈ p, Gd c := fun c hc => ⟨hcl c hc, hr c hc⟩
  have hsum := body_sum p fun c hc => (hg c hc).body
  refine POk.of_v ?_ (nrL_flat (fun _ => rfl) _)
  refine fn_ok mixed (En_ok _ _ _ _) (pl := fun _ => []) (fn := Go.Proofs.Tryz.f7) (c := _) (by kernel_rfl) rfl (by decide) (by kernel_rfl) (E := E0) ?_
  conv => whnf
  refine use_pure (ok19 p) (nr1 (nr_aP _)) ⟨rfl, ?_⟩
  rw [hw]
  conv => whnf
  refine ⟨{ q : Nat × NM // (∀ s, (cntL s (p.flatMap (·.body)) : Int) = getM q.2 s + cntL s ((p.drop q.1).flatMap (·.body))) ∧ ∀ s, 0 ≤ getM q.2 s }, fun q => St [(1, .pp (.loc 1) 0), (3, .sc (.slice none 0 0)), (4, .mp (.loc 19)), (21, vC p), (22, .sc (.int .i64 p.length)), (23, .sc (.int .i64 q.1.1))] [(1, .cells 0 [vC p]), (19, .map (cM q.1.2))] [], fun q => p.length - q.1.1, ⟨(0, []), fun s => by simp [getM], fun s => by simp [getM]⟩, ?_, ?_⟩
  · exact wk_of ⟨avle_refl _, avle_refl _, avle_refl _, avle_refl _, avle_refl _, avle_refl _, trivial⟩ ⟨oble_refl _, oble_map rfl, trivial⟩ rfl ⟨trivial, trivial, trivial, trivial, trivial, trivial, trivial⟩
  rintro ⟨⟨i, m⟩, h1, h2⟩
  simp only at h1 h2
  conv => whnf
  split
  · rename_i hlt
    have hlt : i < p.length := by simpa using hlt
    have hwrap : IntKind.i64.wrap ((i : Int) + 1) = ((i + 1 : Nat) : Int) := (wrap_small _ (by omega) (by omega)).trans (by omega)
    have hfd : (p.drop i).flatMap (·.body) = p[i].body ++ (p.drop (i + 1)).flatMap (·.body) := flat_drop _ _ _ hlt
    have htk := take_cells (g := cC) (n := 4) (fun _ => rfl) p i hlt
    have hir : (0 : Int) ≤ (i : Int) ∧ (i : Int) < p.length := ⟨Int.natCast_nonneg _, Int.ofNat_lt.2 hlt⟩
    have hbl := (hg p[i] (List.getElem_mem hlt)).body
    rw [hfd] at h1
    generalize p[i] = c at h1 htk hbl
    clear hfd
    conv => whnf
    refine ⟨hir, _, htk, ?_⟩
    conv => whnf
    refine ⟨{ q : Nat × NM // (∀ s, (cntL s (p.flatMap (·.body)) : Int) = getM q.2 s + cntL s (c.body.drop q.1 ++ (p.drop (i + 1)).flatMap (·.body))) ∧ ∀ s, 0 ≤ getM q.2 s }, fun q => St [(1, .pp (.loc 1) 0), (3, .sc (.slice none 0 0)), (4, .mp (.loc 19)), (21, vC p), (22, .sc (.int .i64 p.length)), (23, .sc (.int .i64 i)), (28, vL c.body), (29, .sc (.int .i64 c.body.length)), (30, .sc (.int .i64 q.1.1))] [(1, .cells 0 [vC p]), (19, .map (cM q.1.2))] [], fun q => c.body.length - q.1.1, ⟨(0, m), h1, h2⟩, ?_, ?_⟩
    · exact wk_of ⟨avle_refl _, avle_refl _, avle_refl _, avle_refl _, avle_refl _, avle_refl _, avle_refl _, avle_refl _, avle_refl _, trivial⟩ ⟨oble_refl _, oble_map rfl, trivial⟩ rfl ⟨trivial, trivial, trivial, trivial, trivial, trivial, trivial, trivial, trivial, trivial⟩
    rintro ⟨⟨j, m⟩, h1, h2⟩
    simp only at h1 h2
    conv => whnf
    split
    case h_2 =>
      rename_i hlt2
      have hlt2 : c.body.length ≤ j := by simpa using hlt2
      rw [List.drop_of_length_le hlt2, List.nil_append] at h1
      conv => whnf
      exact ⟨⟨(i + 1, m), h1, h2⟩, wk_of ⟨avle_refl _, avle_refl _, avle_refl _, avle_refl _, avle_refl _, avle_int hwrap, trivial⟩ ⟨oble_refl _, oble_map rfl, trivial⟩ rfl ⟨trivial, trivial, trivial, trivial, trivial, trivial, trivial⟩, Nat.sub_lt_sub_left hlt (Nat.lt_succ_self i)⟩
    rename_i hlt2
    have hlt2 : j < c.body.length := by simpa using hlt2
    have hwrap2 : IntKind.i64.wrap ((j : Int) + 1) = ((j + 1 : Nat) : Int) := (wrap_small _ (by omega) (by omega)).trans (by omega)
    have htk2 := take_cells (g := cL) (n := 14) (fun _ => rfl) c.body j hlt2
    have hir2 : (0 : Int) ≤ (j : Int) ∧ (j : Int) < c.body.length := ⟨Int.natCast_nonneg _, Int.ofNat_lt.2 hlt2⟩
    rw [List.drop_eq_getElem_cons hlt2, List.cons_append] at h1
    generalize c.body[j] = l at h1 htk2
    simp only [cntL_cons] at h1
    conv => whnf
    refine ⟨hir2, _, htk2, ?_⟩
    conv => whnf
    split
    case h_2 =>
      rename_i e
      have e : (!decide (l.kind = 3)) = false := e
      have hn : ∀ s, (cntL s (p.flatMap (·.body)) : Int) = getM m s + cntL s (c.body.drop (j + 1) ++ (p.drop (i + 1)).flatMap (·.body)) := by
        intro s; rw [h1 s, if_neg (by simp [namesL, e])]; omega
      conv => whnf
      exact ⟨⟨(j + 1, m), hn, h2⟩, wk_of ⟨avle_refl _, avle_refl _, avle_refl _, avle_refl _, avle_refl _, avle_refl _, avle_refl _, avle_refl _, avle_int hwrap2, trivial⟩ ⟨oble_refl _, oble_map rfl, trivial⟩ rfl ⟨trivial, trivial, trivial, trivial, trivial, trivial, trivial, trivial, trivial, trivial⟩, Nat.sub_lt_sub_left hlt2 (Nat.lt_succ_self j)⟩
    rename_i e
    have e : (!decide (l.kind = 3)) = true := e
    have hw2 : IntKind.i64.wrap (getM m l.atom.pred + 1) = getM m l.atom.pred + 1 := by
      have k1 := h1 l.atom.pred
      have k2 := h2 l.atom.pred
      have k3 : cntL l.atom.pred (p.flatMap (·.body)) ≤ (p.flatMap (·.body)).length := List.length_filter_le _ _
      exact wrap_small _ (by omega) (by omega)
    have hn : ∀ s, (cntL s (p.flatMap (·.body)) : Int) = getM (setM m l.atom.pred (getM m l.atom.pred + 1)) s + cntL s (c.body.drop (j + 1) ++ (p.drop (i + 1)).flatMap (·.body)) := by
      intro s
      rw [get_set, h1 s]
      by_cases hs : s = l.atom.pred
      · subst hs
        rw [if_pos (by simp only [namesL, e, decide_true]; rfl), if_pos rfl]; omega
      · rw [if_neg (by simp only [namesL, decide_eq_false (fun q => hs (Eq.symm q)), Bool.and_false]; decide), if_neg hs]; omega
    have hn2 : ∀ s, 0 ≤ getM (setM m l.atom.pred (getM m l.atom.pred + 1)) s := by
      intro s; rw [get_set]; split
      · have := h2 l.atom.pred; omega
      · exact h2 s
    conv => whnf
    refine ⟨cM m, rfl, ⟨rfl, keys_cM rfl m⟩, _, get_cM (k := 9) rfl m l.atom.pred, ?_⟩
    conv => whnf
    refine ⟨cM m, rfl, ⟨rfl, rfl, keys_cM rfl m⟩, _, upd_cM (k := 9) rfl m l.atom.pred _, ?_⟩
    conv => whnf
    exact ⟨⟨(j + 1, setM m l.atom.pred (getM m l.atom.pred + 1)), hn, hn2⟩, wk_of ⟨avle_refl _, avle_refl _, avle_refl _, avle_refl _, avle_refl _, avle_refl _, avle_refl _, avle_refl _, avle_int hwrap2, trivial⟩ ⟨oble_refl _, oble_set hw2, trivial⟩ rfl ⟨trivial, trivial, trivial, trivial, trivial, trivial, trivial, trivial, trivial, trivial⟩, Nat.sub_lt_sub_left hlt2 (Nat.lt_succ_self j)⟩
  rename_i hlt
  have hlt : p.length ≤ i := by simpa using hlt
  rw [List.drop_of_length_le hlt] at h1
  have hu0 : UseOk p 0 m := by
    intro s
    have k := h1 s
    have k2 : cntL s (([] : List Cl).flatMap (·.body)) = 0 := rfl
    rw [k2] at k
    have k3 := cntL_zero s p
    refine ⟨fun hn h0 => ?_, fun hn => ?_⟩
    · have : cntL s (p.flatMap (·.body)) = 0 := by omega
      rw [k3] at this; rw [this] at hn; cases hn
    · have := k3.2 hn
      rw [if_neg (by simp [headsP])]; omega
  conv => whnf
  refine ⟨{ q : Nat × List Fd × NM // lookL p = q.2.1 ++ lookG (findL p) (p.drop q.1) q.1 ∧ q.2.1.length ≤ q.1 * 160 ∧ q.1 ≤ p.length ∧ UseOk p q.1 q.2.2 }, fun q => St [(1, .pp (.loc 1) 0), (3, vFo q.1.2.1), (4, .mp (.loc 19)), (46, vC p), (47, .sc (.int .i64 p.length)), (48, .sc (.int .i64 q.1.1))] [(1, .cells 0 [vC p]), (19, .map (cM q.1.2.2))] [], fun q => p.length - q.1.1, ⟨(0, [], m), rfl, Nat.le_refl _, Nat.zero_le _, hu0⟩, ?_, ?_⟩
  · exact wk_of ⟨avle_refl _, avle_nil _ _, avle_refl _, avle_refl _, avle_refl _, avle_refl _, trivial⟩ ⟨oble_refl _, oble_map rfl, trivial⟩ rfl ⟨trivial, trivial, trivial, trivial, trivial, trivial, trivial⟩
  rintro ⟨⟨i, out, m⟩, h1, h2, h3, hu⟩
  simp only at h1 h2 h3 hu
  conv => whnf
  split
  case h_2 =>
    rename_i hlt
    have hlt : p.length ≤ i := by simpa using hlt
    rw [List.drop_of_length_le hlt] at h1
    have h1 : lookL p = out := by rw [h1]; simp [lookG]
    have hres : avle (.vec false 5 out.length (out.flatMap cF)) (vF (lookL p)) := by rw [h1]; exact avle_refl _
    conv => whnf
    exact hres
  rename_i hlt
  have hlt : i < p.length := by simpa using hlt
  have hwrap : IntKind.i64.wrap ((i : Int) + 1) = ((i + 1 : Nat) : Int) := (wrap_small _ (by omega) (by omega)).trans (by omega)
  rw [lookG_drop _ _ _ hlt] at h1
  have htk := take_cells (g := cC) (n := 4) (fun _ => rfl) p i hlt
  have hir : (0 : Int) ≤ (i : Int) ∧ (i : Int) < p.length := ⟨Int.natCast_nonneg _, Int.ofNat_lt.2 hlt⟩
  have hgc := hg p[i] (List.getElem_mem hlt)
  have hpi : p[i]? = some p[i] := List.getElem?_eq_getElem hlt
  have hhs := fun s => headsP_succ p s i hlt
  generalize p[i] = c at h1 htk hgc hpi hhs
  have h20 := ok20 p i c hg (by omega) hpi
  have hfr : findL p i c = findG i c (twL p i c) (cvL p i c) (idxP (faultL c.body) c.body 0) (fun l => (cmpdP l).1) (unusedP p i c) := rfl
  have hrange := idx_range (faultL c.body) c.body 0
  rw [hfr] at h1
  have h21 := hgc.ok21
  have h22 := hgc.ok22 i
  have hbl := hgc.body
  have hsl := sing_len (allT c) i
  have hal := hgc.all
  have hol := oth_len i c (twL p i c) (cvL p i c)
  have hund : unusedP p i c = (!decide (c.body.length = 0) && !namedP p c.head.pred && !headsP p c.head.pred i) := rfl
  generalize idxP (faultL c.body) c.body 0 = k at *
  generalize twL p i c = tw at *
  generalize cvL p i c = cv at *
  clear hfr hpi
  have hob : out.length ≤ 81920 := by omega
  conv => whnf
  refine ⟨hir, _, htk, ?_⟩
  conv => whnf
  refine use_pure h20 (nr2 (nr_vC _) rfl) ⟨rfl, ?_⟩
  generalize hO : othF i c tw cv = O at h1 hol
  have hfg : findG i c tw cv k (fun l => (cmpdP l).1) (unusedP p i c) = O ++ nevF i c k ++ singP (allT c) i ++ c.body.flatMap (idlF i fun l => (cmpdP l).1) ++ unuF i c (unusedP p i c) := by rw [← hO]; rfl
  rw [hfg] at h1
  clear hO hfg h20
  conv => whnf
  refine ⟨⟨by show out.length + O.length ≤ _; omega, by show (out.length + O.length) * 48 ≤ _; omega, okc_F _⟩, ?_⟩
  conv => whnf
  refine use_pure h21 (nr1 (nr_aCl _)) ⟨rfl, ?_⟩
  conv => whnf
  split
  · rename_i e
    have e : decide (k ≥ 0) = true := e
    have e := of_decide_eq_true e
    obtain ⟨j, hj, rfl⟩ : ∃ j, j < c.body.length ∧ k = (j : Int) := by
      rcases hrange with h | ⟨j, h1, h2⟩
      · omega
      · exact ⟨j, h1, by rw [h2, Nat.zero_add]⟩
    have htkj := take_cells (g := cL) (n := 14) (fun _ => rfl) c.body j hj
    have hirj : (0 : Int) ≤ (j : Int) ∧ (j : Int) < c.body.length := ⟨Int.natCast_nonneg _, Int.ofNat_lt.2 hj⟩
    have hnev : nevF i c (j : Int) = [⟨3, i, -1, c.body[j].off, noB⟩] := by
      have : offAt c.body (j : Int) = c.body[j].off := by unfold offAt; rw [Int.toNat_natCast, List.getElem?_eq_getElem hj]
      rw [nevF, if_pos e, this]
    generalize c.body[j] = mm at htkj hnev
    conv => whnf
    refine ⟨hirj, _, htkj, ?_⟩
    conv => whnf
    refine ⟨⟨by show out.length + O.length + 1 ≤ _; omega, by show (out.length + O.length + 1) * 48 ≤ _; omega, rfl⟩, ?_⟩
    have hslot : vFo (out ++ O ++ [(⟨3, i, -1, mm.off, noB⟩ : Fd)] ++ (singP (allT c) i)) = .vec true 5 (out.length + O.length + 1 + (singP (allT c) i).length) (((out.flatMap cF ++ O.flatMap cF) ++ cF (⟨3, i, -1, mm.off, noB⟩ : Fd)) ++ (singP (allT c) i).flatMap cF) := by simp [vFo, Nat.add_assoc] <;> omega
    have hst : lookL p = (out ++ O ++ [(⟨3, i, -1, mm.off, noB⟩ : Fd)] ++ (singP (allT c) i)) ++ ((c.body.drop 0).flatMap (idlF i fun l => (cmpdP l).1) ++ (unuF i c (unusedP p i c) ++ lookG (findL p) (p.drop (i + 1)) (i + 1))) := by rw [h1]; simp [hnev]
    have hsz : (out ++ O ++ [(⟨3, i, -1, mm.off, noB⟩ : Fd)] ++ (singP (allT c) i)).length ≤ i * 160 + 138 + 0 := by simp; omega
    clear hnev
    conv => whnf
    refine use_pure h22 (nr2 (nr_aCl _) rfl) ⟨rfl, ?_⟩
    conv => whnf
    refine ⟨⟨by show out.length + O.length + 1 + (singP (allT c) i).length ≤ _; omega, by show (out.length + O.length + 1 + (singP (allT c) i).length) * 48 ≤ _; omega, okc_F _⟩, ?_⟩
    conv => whnf
    refine ⟨{ q : Nat × List Fd // lookL p = q.2 ++ ((c.body.drop q.1).flatMap (idlF i fun l => (cmpdP l).1) ++ (unuF i c (unusedP p i c) ++ lookG (findL p) (p.drop (i + 1)) (i + 1))) ∧ q.2.length ≤ i * 160 + 138 + q.1 ∧ q.1 ≤ c.body.length }, fun q => St [(1, .pp (.loc 1) 0), (3, vFo q.1.2), (4, .mp (.loc 19)), (9, .sc (.int .i64 i)), (10, .pp (.loc 10) 0), (46, vC p), (47, .sc (.int .i64 p.length)), (48, .sc (.int .i64 i)), (80, vL c.body), (81, .sc (.int .i64 c.body.length)), (82, .sc (.int .i64 q.1.1))] [(1, .cells 0 [vC p]), (10, .cells 0 (cC c)), (19, .map (cM m))] [], fun q => c.body.length - q.1.1, ⟨(0, _), hst, hsz, Nat.zero_le _⟩, ?_, ?_⟩
    · exact wk_of ⟨avle_refl _, avle_eq hslot, avle_refl _, avle_refl _, avle_refl _, avle_refl _, avle_refl _, avle_refl _, avle_refl _, avle_refl _, avle_refl _, trivial⟩ ⟨oble_refl _, oble_refl _, oble_map rfl, trivial⟩ rfl ⟨trivial, trivial, trivial, trivial, trivial, trivial, trivial, trivial, trivial, trivial, trivial, trivial⟩
    clear hslot hst hsz
    rintro ⟨⟨j2, o2⟩, g1, g2, g3⟩
    simp only at g1 g2 g3
    conv => whnf
    split
    · rename_i hlt2
      have hlt2 : j2 < c.body.length := by simpa using hlt2
      have hwrap2 : IntKind.i64.wrap ((j2 : Int) + 1) = ((j2 + 1 : Nat) : Int) := (wrap_small _ (by omega) (by omega)).trans (by omega)
      rw [flat_drop _ _ _ hlt2, List.append_assoc, ← List.append_assoc] at g1
      have htk2 := take_cells (g := cL) (n := 14) (fun _ => rfl) c.body j2 hlt2
      have hir2 : (0 : Int) ≤ (j2 : Int) ∧ (j2 : Int) < c.body.length := ⟨Int.natCast_nonneg _, Int.ofNat_lt.2 hlt2⟩
      generalize c.body[j2] = l at g1 htk2
      conv => whnf
      refine ⟨hir2, _, htk2, ?_⟩
      conv => whnf
      refine use_pure (ok23 l) (nr1 (nr_aL _)) ⟨rfl, ?_⟩
      conv => whnf
      split
      · rename_i e
        have e : (cmpdP l).1 = true := e
        have hi : idlF i (fun l => (cmpdP l).1) l = [⟨5, i, -1, l.off, noB⟩] := by simp only [idlF, e]; rfl
        rw [hi] at g1
        conv => whnf
        refine ⟨⟨by show o2.length + 1 ≤ _; omega, by show (o2.length + 1) * 48 ≤ _; omega, rfl⟩, ?_⟩
        conv => whnf
        exact ⟨⟨(j2 + 1, o2 ++ [⟨5, i, -1, l.off, noB⟩]), g1, by simp; omega, hlt2⟩, wk_of ⟨avle_refl _, avle_eq (vFo_app _ _), avle_refl _, avle_refl _, avle_refl _, avle_refl _, avle_refl _, avle_refl _, avle_refl _, avle_refl _, avle_int hwrap2, trivial⟩ ⟨oble_refl _, oble_refl _, oble_map rfl, trivial⟩ rfl ⟨trivial, trivial, trivial, trivial, trivial, trivial, trivial, trivial, trivial, trivial, trivial, trivial⟩, Nat.sub_lt_sub_left hlt2 (Nat.lt_succ_self j2)⟩
      · rename_i e
        have e : (cmpdP l).1 = false := e
        have hi : idlF i (fun l => (cmpdP l).1) l = [] := by simp only [idlF, e]; rfl
        rw [hi, List.append_nil] at g1
        conv => whnf
        exact ⟨⟨(j2 + 1, o2), g1, by show o2.length ≤ i * 160 + 138 + (j2 + 1); omega, hlt2⟩, wk_of ⟨avle_refl _, avle_refl _, avle_refl _, avle_refl _, avle_refl _, avle_refl _, avle_refl _, avle_refl _, avle_refl _, avle_refl _, avle_int hwrap2, trivial⟩ ⟨oble_refl _, oble_refl _, oble_map rfl, trivial⟩ rfl ⟨trivial, trivial, trivial, trivial, trivial, trivial, trivial, trivial, trivial, trivial, trivial, trivial⟩, Nat.sub_lt_sub_left hlt2 (Nat.lt_succ_self j2)⟩
    rename_i hlt2
    have hlt2 : c.body.length ≤ j2 := by simpa using hlt2
    rw [List.drop_of_length_le hlt2, List.flatMap_nil, List.nil_append, ← List.append_assoc] at g1
    have keep : ∀ (hx : c.body.length > 0 → headsP p c.head.pred i = true ∨ namedP p c.head.pred = true), UseOk p (i + 1) m ∧ unusedP p i c = false := by
      intro hx
      refine ⟨fun s => ⟨(hu s).1, fun hn => ?_⟩, ?_⟩
      · rw [(hu s).2 hn, hhs s]
        by_cases hs : c.head.pred = s
        · subst hs
          by_cases hb : c.body.length > 0
          · rcases hx hb with h | h
            · rw [h]; rfl
            · rw [h] at hn; cases hn
          · rw [decide_eq_false hb]; simp
        · rw [decide_eq_false hs]; simp
      · rw [hund]
        by_cases hb : c.body.length > 0
        · rcases hx hb with h | h <;> simp [h]
        · rw [decide_eq_true (show c.body.length = 0 from by omega)]; rfl
    conv => whnf
    split
    case h_2 =>
      rename_i e
      have e : decide ((c.body.length : Int) > 0) = false := e
      have e : ¬ c.body.length > 0 := by have := of_decide_eq_false e; omega
      obtain ⟨hk, hun⟩ := keep fun h => absurd h e
      have hux : unuF i c (unusedP p i c) = [] := by rw [hun]; rfl
      rw [hux, List.append_nil] at g1
      conv => whnf
      exact ⟨⟨(i + 1, o2, m), g1, by show o2.length ≤ (i + 1) * 160; omega, hlt, hk⟩, wk_of ⟨avle_refl _, avle_refl _, avle_refl _, avle_refl _, avle_refl _, avle_int hwrap, trivial⟩ ⟨oble_refl _, oble_map rfl, trivial⟩ rfl ⟨trivial, trivial, trivial, trivial, trivial, trivial, trivial⟩, Nat.sub_lt_sub_left hlt (Nat.lt_succ_self i)⟩
    rename_i e
    have e : decide ((c.body.length : Int) > 0) = true := e
    have e : c.body.length > 0 := by have := of_decide_eq_true e; omega
    conv => whnf
    refine ⟨cM m, rfl, ⟨rfl, keys_cM rfl m⟩, _, get_cM (k := 9) rfl m c.head.pred, ?_⟩
    conv => whnf
    split
    case h_2 =>
      rename_i e2
      have e2 : decide (getM m c.head.pred = 0) = false := e2
      obtain ⟨hk, hun⟩ := keep fun _ => by
        cases hn : namedP p c.head.pred with
        | true => exact .inr rfl
        | false =>
          left
          have := (hu c.head.pred).2 hn
          cases hh : headsP p c.head.pred i with
          | true => rfl
          | false => rw [hh] at this; exact absurd this (of_decide_eq_false e2)
      have hux : unuF i c (unusedP p i c) = [] := by rw [hun]; rfl
      rw [hux, List.append_nil] at g1
      conv => whnf
      exact ⟨⟨(i + 1, o2, m), g1, by show o2.length ≤ (i + 1) * 160; omega, hlt, hk⟩, wk_of ⟨avle_refl _, avle_refl _, avle_refl _, avle_refl _, avle_refl _, avle_int hwrap, trivial⟩ ⟨oble_refl _, oble_map rfl, trivial⟩ rfl ⟨trivial, trivial, trivial, trivial, trivial, trivial, trivial⟩, Nat.sub_lt_sub_left hlt (Nat.lt_succ_self i)⟩
    rename_i e2
    have e2 : decide (getM m c.head.pred = 0) = true := e2
    have e2 := of_decide_eq_true e2
    have hnam : namedP p c.head.pred = false := by
      cases hn : namedP p c.head.pred with
      | true => exact absurd e2 ((hu c.head.pred).1 hn)
      | false => rfl
    have hhd : headsP p c.head.pred i = false := by
      have := (hu c.head.pred).2 hnam
      cases hh : headsP p c.head.pred i with
      | true => rw [hh, e2] at this; exact absurd this (by decide)
      | false => rfl
    have hun : unusedP p i c = true := by rw [hund, hnam, hhd, decide_eq_false (show ¬ c.body.length = 0 from by omega)]; rfl
    have hux : unuF i c (unusedP p i c) = [⟨6, i, -1, c.head.off, c.head.pred⟩] := by rw [hun]; rfl
    have hk : UseOk p (i + 1) (setM m c.head.pred (-1)) := by
      intro s
      rw [get_set, hhs s]
      by_cases hs : s = c.head.pred
      · subst hs
        rw [if_pos rfl]
        exact ⟨fun _ => by decide, fun _ => by rw [decide_eq_true rfl, decide_eq_true e]; simp⟩
      · rw [if_neg hs, decide_eq_false (fun q => hs (Eq.symm q))]
        simpa using hu s
    rw [hux] at g1
    conv => whnf
    refine ⟨cM m, rfl, ⟨rfl, rfl, keys_cM rfl m⟩, _, upd_cM (k := 9) rfl m c.head.pred _, ?_⟩
    conv => whnf
    refine ⟨⟨by show o2.length + 1 ≤ _; omega, by show (o2.length + 1) * 48 ≤ _; omega, rfl⟩, ?_⟩
    conv => whnf
    exact ⟨⟨(i + 1, o2 ++ [⟨6, i, -1, c.head.off, c.head.pred⟩], setM m c.head.pred (-1)), g1, by simp; omega, hlt, hk⟩, wk_of ⟨avle_refl _, avle_eq (vFo_app _ _), avle_refl _, avle_refl _, avle_refl _, avle_int hwrap, trivial⟩ ⟨oble_refl _, oble_map rfl, trivial⟩ rfl ⟨trivial, trivial, trivial, trivial, trivial, trivial, trivial⟩, Nat.sub_lt_sub_left hlt (Nat.lt_succ_self i)⟩
  · rename_i e
    have e : decide (k ≥ 0) = false := e
    have e := of_decide_eq_false e
    have hnev : nevF i c k = [] := by rw [nevF, if_neg e]
    have hslot : vFo (out ++ O ++ (singP (allT c) i)) = .vec true 5 (out.length + O.length + (singP (allT c) i).length) ((out.flatMap cF ++ O.flatMap cF) ++ (singP (allT c) i).flatMap cF) := by simp [vFo, Nat.add_assoc]
    have hst : lookL p = (out ++ O ++ (singP (allT c) i)) ++ ((c.body.drop 0).flatMap (idlF i fun l => (cmpdP l).1) ++ (unuF i c (unusedP p i c) ++ lookG (findL p) (p.drop (i + 1)) (i + 1))) := by rw [h1]; simp [hnev]
    have hsz : (out ++ O ++ (singP (allT c) i)).length ≤ i * 160 + 138 + 0 := by simp; omega
    clear hnev
    conv => whnf
    refine use_pure h22 (nr2 (nr_aCl _) rfl) ⟨rfl, ?_⟩
    conv => whnf
    refine ⟨⟨by show out.length + O.length + (singP (allT c) i).length ≤ _; omega, by show (out.length + O.length + (singP (allT c) i).length) * 48 ≤ _; omega, okc_F _⟩, ?_⟩
    conv => whnf
    refine ⟨{ q : Nat × List Fd // lookL p = q.2 ++ ((c.body.drop q.1).flatMap (idlF i fun l => (cmpdP l).1) ++ (unuF i c (unusedP p i c) ++ lookG (findL p) (p.drop (i + 1)) (i + 1))) ∧ q.2.length ≤ i * 160 + 138 + q.1 ∧ q.1 ≤ c.body.length }, fun q => St [(1, .pp (.loc 1) 0), (3, vFo q.1.2), (4, .mp (.loc 19)), (9, .sc (.int .i64 i)), (10, .pp (.loc 10) 0), (46, vC p), (47, .sc (.int .i64 p.length)), (48, .sc (.int .i64 i)), (80, vL c.body), (81, .sc (.int .i64 c.body.length)), (82, .sc (.int .i64 q.1.1))] [(1, .cells 0 [vC p]), (10, .cells 0 (cC c)), (19, .map (cM m))] [], fun q => c.body.length - q.1.1, ⟨(0, _), hst, hsz, Nat.zero_le _⟩, ?_, ?_⟩
    · exact wk_of ⟨avle_refl _, avle_eq hslot, avle_refl _, avle_refl _, avle_refl _, avle_refl _, avle_refl _, avle_refl _, avle_refl _, avle_refl _, avle_refl _, trivial⟩ ⟨oble_refl _, oble_refl _, oble_map rfl, trivial⟩ rfl ⟨trivial, trivial, trivial, trivial, trivial, trivial, trivial, trivial, trivial, trivial, trivial, trivial⟩
    clear hslot hst hsz
    rintro ⟨⟨j2, o2⟩, g1, g2, g3⟩
    simp only at g1 g2 g3
    conv => whnf
    split
    · rename_i hlt2
      have hlt2 : j2 < c.body.length := by simpa using hlt2
      have hwrap2 : IntKind.i64.wrap ((j2 : Int) + 1) = ((j2 + 1 : Nat) : Int) := (wrap_small _ (by omega) (by omega)).trans (by omega)
      rw [flat_drop _ _ _ hlt2, List.append_assoc, ← List.append_assoc] at g1
      have htk2 := take_cells (g := cL) (n := 14) (fun _ => rfl) c.body j2 hlt2
      have hir2 : (0 : Int) ≤ (j2 : Int) ∧ (j2 : Int) < c.body.length := ⟨Int.natCast_nonneg _, Int.ofNat_lt.2 hlt2⟩
      generalize c.body[j2] = l at g1 htk2
      conv => whnf
      refine ⟨hir2, _, htk2, ?_⟩
      conv => whnf
      refine use_pure (ok23 l) (nr1 (nr_aL _)) ⟨rfl, ?_⟩
      conv => whnf
      split
      · rename_i e
        have e : (cmpdP l).1 = true := e
        have hi : idlF i (fun l => (cmpdP l).1) l = [⟨5, i, -1, l.off, noB⟩] := by simp only [idlF, e]; rfl
        rw [hi] at g1
        conv => whnf
        refine ⟨⟨by show o2.length + 1 ≤ _; omega, by show (o2.length + 1) * 48 ≤ _; omega, rfl⟩, ?_⟩
        conv => whnf
        exact ⟨⟨(j2 + 1, o2 ++ [⟨5, i, -1, l.off, noB⟩]), g1, by simp; omega, hlt2⟩, wk_of ⟨avle_refl _, avle_eq (vFo_app _ _), avle_refl _, avle_refl _, avle_refl _, avle_refl _, avle_refl _, avle_refl _, avle_refl _, avle_refl _, avle_int hwrap2, trivial⟩ ⟨oble_refl _, oble_refl _, oble_map rfl, trivial⟩ rfl ⟨trivial, trivial, trivial, trivial, trivial, trivial, trivial, trivial, trivial, trivial, trivial, trivial⟩, Nat.sub_lt_sub_left hlt2 (Nat.lt_succ_self j2)⟩
      · rename_i e
        have e : (cmpdP l).1 = false := e
        have hi : idlF i (fun l => (cmpdP l).1) l = [] := by simp only [idlF, e]; rfl
        rw [hi, List.append_nil] at g1
        conv => whnf
        exact ⟨⟨(j2 + 1, o2), g1, by show o2.length ≤ i * 160 + 138 + (j2 + 1); omega, hlt2⟩, wk_of ⟨avle_refl _, avle_refl _, avle_refl _, avle_refl _, avle_refl _, avle_refl _, avle_refl _, avle_refl _, avle_refl _, avle_refl _, avle_int hwrap2, trivial⟩ ⟨oble_refl _, oble_refl _, oble_map rfl, trivial⟩ rfl ⟨trivial, trivial, trivial, trivial, trivial, trivial, trivial, trivial, trivial, trivial, trivial, trivial⟩, Nat.sub_lt_sub_left hlt2 (Nat.lt_succ_self j2)⟩
    rename_i hlt2
    have hlt2 : c.body.length ≤ j2 := by simpa using hlt2
    rw [List.drop_of_length_le hlt2, List.flatMap_nil, List.nil_append, ← List.append_assoc] at g1
    have keep : ∀ (hx : c.body.length > 0 → headsP p c.head.pred i = true ∨ namedP p c.head.pred = true), UseOk p (i + 1) m ∧ unusedP p i c = false := by
      intro hx
      refine ⟨fun s => ⟨(hu s).1, fun hn => ?_⟩, ?_⟩
      · rw [(hu s).2 hn, hhs s]
        by_cases hs : c.head.pred = s
        · subst hs
          by_cases hb : c.body.length > 0
          · rcases hx hb with h | h
            · rw [h]; rfl
            · rw [h] at hn; cases hn
          · rw [decide_eq_false hb]; simp
        · rw [decide_eq_false hs]; simp
      · rw [hund]
        by_cases hb : c.body.length > 0
        · rcases hx hb with h | h <;> simp [h]
        · rw [decide_eq_true (show c.body.length = 0 from by omega)]; rfl
    conv => whnf
    split
    case h_2 =>
      rename_i e
      have e : decide ((c.body.length : Int) > 0) = false := e
      have e : ¬ c.body.length > 0 := by have := of_decide_eq_false e; omega
      obtain ⟨hk, hun⟩ := keep fun h => absurd h e
      have hux : unuF i c (unusedP p i c) = [] := by rw [hun]; rfl
      rw [hux, List.append_nil] at g1
      conv => whnf
      exact ⟨⟨(i + 1, o2, m), g1, by show o2.length ≤ (i + 1) * 160; omega, hlt, hk⟩, wk_of ⟨avle_refl _, avle_refl _, avle_refl _, avle_refl _, avle_refl _, avle_int hwrap, trivial⟩ ⟨oble_refl _, oble_map rfl, trivial⟩ rfl ⟨trivial, trivial, trivial, trivial, trivial, trivial, trivial⟩, Nat.sub_lt_sub_left hlt (Nat.lt_succ_self i)⟩
    rename_i e
    have e : decide ((c.body.length : Int) > 0) = true := e
    have e : c.body.length > 0 := by have := of_decide_eq_true e; omega
    conv => whnf
    refine ⟨cM m, rfl, ⟨rfl, keys_cM rfl m⟩, _, get_cM (k := 9) rfl m c.head.pred, ?_⟩
    conv => whnf
    split
    case h_2 =>
      rename_i e2
      have e2 : decide (getM m c.head.pred = 0) = false := e2
      obtain ⟨hk, hun⟩ := keep fun _ => by
        cases hn : namedP p c.head.pred with
        | true => exact .inr rfl
        | false =>
          left
          have := (hu c.head.pred).2 hn
          cases hh : headsP p c.head.pred i with
          | true => rfl
          | false => rw [hh] at this; exact absurd this (of_decide_eq_false e2)
      have hux : unuF i c (unusedP p i c) = [] := by rw [hun]; rfl
      rw [hux, List.append_nil] at g1
      conv => whnf
      exact ⟨⟨(i + 1, o2, m), g1, by show o2.length ≤ (i + 1) * 160; omega, hlt, hk⟩, wk_of ⟨avle_refl _, avle_refl _, avle_refl _, avle_refl _, avle_refl _, avle_int hwrap, trivial⟩ ⟨oble_refl _, oble_map rfl, trivial⟩ rfl ⟨trivial, trivial, trivial, trivial, trivial, trivial, trivial⟩, Nat.sub_lt_sub_left hlt (Nat.lt_succ_self i)⟩
    rename_i e2
    have e2 : decide (getM m c.head.pred = 0) = true := e2
    have e2 := of_decide_eq_true e2
    have hnam : namedP p c.head.pred = false := by
      cases hn : namedP p c.head.pred with
      | true => exact absurd e2 ((hu c.head.pred).1 hn)
      | false => rfl
    have hhd : headsP p c.head.pred i = false := by
      have := (hu c.head.pred).2 hnam
      cases hh : headsP p c.head.pred i with
      | true => rw [hh, e2] at this; exact absurd this (by decide)
      | false => rfl
    have hun : unusedP p i c = true := by rw [hund, hnam, hhd, decide_eq_false (show ¬ c.body.length = 0 from by omega)]; rfl
    have hux : unuF i c (unusedP p i c) = [⟨6, i, -1, c.head.off, c.head.pred⟩] := by rw [hun]; rfl
    have hk : UseOk p (i + 1) (setM m c.head.pred (-1)) := by
      intro s
      rw [get_set, hhs s]
      by_cases hs : s = c.head.pred
      · subst hs
        rw [if_pos rfl]
        exact ⟨fun _ => by decide, fun _ => by rw [decide_eq_true rfl, decide_eq_true e]; simp⟩
      · rw [if_neg hs, decide_eq_false (fun q => hs (Eq.symm q))]
        simpa using hu s
    rw [hux] at g1
    conv => whnf
    refine ⟨cM m, rfl, ⟨rfl, rfl, keys_cM rfl m⟩, _, upd_cM (k := 9) rfl m c.head.pred _, ?_⟩
    conv => whnf
    refine ⟨⟨by show o2.length + 1 ≤ _; omega, by show (o2.length + 1) * 48 ≤ _; omega, rfl⟩, ?_⟩
    conv => whnf
    exact ⟨⟨(i + 1, o2 ++ [⟨6, i, -1, c.head.off, c.head.pred⟩], setM m c.head.pred (-1)), g1, by simp; omega, hlt, hk⟩, wk_of ⟨avle_refl _, avle_eq (vFo_app _ _), avle_refl _, avle_refl _, avle_refl _, avle_int hwrap, trivial⟩ ⟨oble_refl _, oble_map rfl, trivial⟩ rfl ⟨trivial, trivial, trivial, trivial, trivial, trivial, trivial⟩, Nat.sub_lt_sub_left hlt (Nat.lt_succ_self i)⟩
end Go.Proofs.YtjchgncgkhofhaaGreat.AL
/- The program's functions in abstract words: copies; the law. -/
set_option linter.unusedVariables false
namespace Go.Proofs.YtjchgncgkhofhaaGreat.AL
open Go
attribute [local irreducible] PlainFn CallOk

def SzC (c : Cl) : Prop := c.head.args.length * 40 ≤ 140737488355328 ∧ c.body.length * 152 ≤ 140737488355328 ∧ ∀ l ∈ c.body, l.atom.args.length * 40 ≤ 140737488355328
def vLo (l : List Lt) : AV := .vec true 14 l.length (l.flatMap cL)
theorem vLo_app (a : List Lt) (l : Lt) : vLo (a ++ [l]) = .vec true 14 (a.length + 1) (a.flatMap cL ++ [.sc (.int .i64 l.kind), .sc (.string l.atom.pred), .vec false 4 (0 + l.atom.args.length) ([] ++ l.atom.args.flatMap cT), .sc (.int .i64 l.atom.off), .sc (.int .i64 l.op),
  .sc (.int .i64 l.left.kind), .sc (.int .i64 l.left.num), .sc (.string l.left.text), .sc (.int .i64 l.left.off),
  .sc (.int .i64 l.right.kind), .sc (.int .i64 l.right.num), .sc (.string l.right.text), .sc (.int .i64 l.right.off), .sc (.int .i64 l.off)]) := by simp [vLo, cL, vT]
theorem avle_vT0 (l : List Tm) : avle (.vec true 4 (0 + l.length) ([] ++ l.flatMap cT)) (vT l) := by
  rw [Nat.zero_add]; exact avle_dm'
set_option maxHeartbeats 1000000 in
theorem ok11 (c : Cl) (hs : SzC c) : POk 11 [aCl c] (aCl c) := by
  obtain ⟨h1, h2, h3⟩ := hs
  refine fn_ok mixed (En_ok _ _ _ _) (pl := fun _ => []) (fn := Go.Proofs.Tryz.f11) (c := _) (by kernel_rfl) rfl (by decide) (by kernel_rfl) (E := E0) ?_
  conv => whnf
  refine ⟨⟨by show 0 + c.head.args.length ≤ _; omega, by show (0 + c.head.args.length) * 40 ≤ _; omega, okc_T _⟩, ?_⟩
  conv => whnf
  refine ⟨{ i : Nat // i ≤ c.body.length }, fun i => St [(1, .pp (.loc 1) 0), (2, .pp (.loc 2) 0), (3, .pp (.loc 3) 0), (4, .sc (.int .i64 i.1))] [(1, .cells 0 (cC c)), (2, .cells 0 [.undef, .undef, .undef, .undef]), (3, .cells 0 [.sc (.string c.head.pred), vT c.head.args, .sc (.int .i64 c.head.off), vLo (c.body.take i.1)])] [], fun i => c.body.length - i.1, ⟨0, Nat.zero_le _⟩, ?_, ?_⟩
  · exact wk_of ⟨avle_refl _, avle_refl _, avle_refl _, avle_refl _, trivial⟩ ⟨oble_refl _, oble_cells ⟨avle_undef _, avle_undef _, avle_undef _, avle_undef _, trivial⟩, oble_cells ⟨avle_refl _, avle_vT0 _, avle_refl _, avle_nil _ _, trivial⟩, trivial⟩ rfl ⟨trivial, trivial, trivial, trivial, trivial⟩
  rintro ⟨i, hi⟩
  conv => whnf
  split
  · rename_i hlt
    have hlt : i < c.body.length := by simpa using hlt
    have hwrap : IntKind.i64.wrap ((i : Int) + 1) = ((i + 1 : Nat) : Int) := (wrap_small _ (by omega) (by omega)).trans (by omega)
    have htk := take_cells (g := cL) (n := 14) (fun _ => rfl) c.body i hlt
    have hir : (0 : Int) ≤ (i : Int) ∧ (i : Int) < c.body.length := ⟨Int.natCast_nonneg _, Int.ofNat_lt.2 hlt⟩
    have hal := h3 c.body[i] (List.getElem_mem hlt)
    have htm : c.body.take (i + 1) = c.body.take i ++ [c.body[i]] := List.take_succ_eq_append_getElem hlt
    have hln : (c.body.take i).length = i := by simp; omega
    generalize c.body[i] = l at htk hal htm
    have hslot := vLo_app (c.body.take i) l
    rw [← htm] at hslot
    conv => whnf
    refine ⟨hir, _, htk, ?_⟩
    conv => whnf
    refine ⟨⟨by show 0 + l.atom.args.length ≤ _; omega, by show (0 + l.atom.args.length) * 40 ≤ _; omega, okc_T _⟩, ?_⟩
    conv => whnf
    refine ⟨⟨by show (c.body.take i).length + 1 ≤ _; omega, by show ((c.body.take i).length + 1) * 152 ≤ _; omega, rfl⟩, ?_⟩
    conv => whnf
    exact ⟨⟨i + 1, hlt⟩, wk_of ⟨avle_refl _, avle_refl _, avle_refl _, avle_int hwrap, trivial⟩ ⟨oble_refl _, oble_refl _, oble_cells ⟨avle_refl _, avle_refl _, avle_refl _, avle_eq hslot, trivial⟩, trivial⟩ rfl ⟨trivial, trivial, trivial, trivial, trivial⟩, Nat.sub_lt_sub_left hlt (Nat.lt_succ_self i)⟩
  · rename_i hlt
    have hlt : c.body.length ≤ i := by simpa using hlt
    have htm : c.body.take i = c.body := List.take_of_length_le hlt
    have hres : AV.agg [.sc (.string c.head.pred), vT c.head.args, .sc (.int .i64 c.head.off), .vec false 14 (c.body.take i).length ((c.body.take i).flatMap cL)] = aCl c := by rw [htm]; rfl
    conv => whnf
    exact ⟨(congrArg nr hres).trans (nr_aCl c), hres⟩
def vCo (l : List Cl) : AV := .vec true 4 l.length (l.flatMap cC)
theorem vCo_app (a : List Cl) (l : Cl) : vCo (a ++ [l]) = .vec true 4 (a.length + 1) (a.flatMap cC ++ cC l) := by simp [vCo]
set_option maxHeartbeats 1000000 in
theorem ok5 (p : List Cl) (hp : p.length * 72 ≤ 140737488355328) (hs : ∀ c ∈ p, SzC c) : POk 5 [aP p] (aP p) := by
  refine fn_ok mixed (En_ok _ _ _ _) (pl := fun _ => [0, 2, 3, 4, 5, 6, 7, 8, 1, 9, 10, 11].map Pl.one) (fn := Go.Proofs.Tryz.f5) (c := _) (by kernel_rfl) rfl (by decide) (by kernel_rfl) (E := E0) ?_
  conv => whnf
  refine ⟨{ i : Nat // i ≤ p.length }, fun i => St [(1, .pp (.loc 1) 0), (2, .pp (.loc 2) 0), (3, .pp (.loc 3) 0), (4, .sc (.int .i64 i.1))] [(1, .cells 0 [vC p]), (2, .cells 0 [.undef]), (3, .cells 0 [vCo (p.take i.1)])] [], fun i => p.length - i.1, ⟨0, Nat.zero_le _⟩, ?_, ?_⟩
  · exact wk_of ⟨avle_refl _, avle_refl _, avle_refl _, avle_refl _, trivial⟩ ⟨oble_refl _, oble_cells ⟨avle_undef _, trivial⟩, oble_cells ⟨avle_nil _ _, trivial⟩, trivial⟩ rfl ⟨trivial, trivial, trivial, trivial, trivial⟩
  rintro ⟨i, hi⟩
  conv => whnf
  split
  · rename_i hlt
    have hlt : i < p.length := by simpa using hlt
    have hwrap : IntKind.i64.wrap ((i : Int) + 1) = ((i + 1 : Nat) : Int) := (wrap_small _ (by omega) (by omega)).trans (by omega)
    have htk := take_cells (g := cC) (n := 4) (fun _ => rfl) p i hlt
    have hir : (0 : Int) ≤ (i : Int) ∧ (i : Int) < p.length := ⟨Int.natCast_nonneg _, Int.ofNat_lt.2 hlt⟩
    have h11 := ok11 p[i] (hs p[i] (List.getElem_mem hlt))
    have htm : p.take (i + 1) = p.take i ++ [p[i]] := List.take_succ_eq_append_getElem hlt
    have hln : (p.take i).length = i := by simp; omega
    generalize p[i] = c at htk h11 htm
    have hslot := vCo_app (p.take i) c
    rw [← htm] at hslot
    conv => whnf
    refine And.intro (by kernel_rfl) ?_
    conv => whnf
    refine ⟨hir, _, htk, ?_⟩
    conv => whnf
    refine use_ex h11 (nr1 (nr_aCl c)) ⟨rfl, ?_⟩
    conv => whnf
    refine ⟨⟨by show (p.take i).length + 1 ≤ _; omega, by show ((p.take i).length + 1) * 72 ≤ _; omega, rfl⟩, ?_⟩
    conv => whnf
    exact ⟨⟨i + 1, hlt⟩, wk_of ⟨avle_refl _, avle_refl _, avle_refl _, avle_int hwrap, trivial⟩ ⟨oble_refl _, oble_refl _, oble_cells ⟨avle_eq hslot, trivial⟩, trivial⟩ rfl ⟨trivial, trivial, trivial, trivial, trivial⟩, Nat.sub_lt_sub_left hlt (Nat.lt_succ_self i)⟩
  · rename_i hlt
    have hlt : p.length ≤ i := by simpa using hlt
    have htm : p.take i = p := List.take_of_length_le hlt
    have hres : AV.agg [.vec false 4 (p.take i).length ((p.take i).flatMap cC)] = aP p := by rw [htm]; rfl
    conv => whnf
    exact ⟨(congrArg nr hres).trans (nr_aP p), hres⟩
theorem fd_eq (x y : Fd) : (decide (x.kind = y.kind) && (decide (x.clause = y.clause) && (decide (x.other = y.other) && (decide (x.off = y.off) && decide (x.name = y.name))))) = decide (x = y) := by
  cases x; cases y; simp
set_option maxHeartbeats 1000000 in
theorem ok3 (p : List Cl) (fs : List Fd) (hf : fs.length ≤ 9223372036854775807) (h5 : POk 5 [aP p] (aP p)) (h6 : POk 6 [aP p] (vF fs)) (h7 : POk 7 [aP p] (vF fs)) : POk 3 [aP p] (.sc (.bool true)) := by
  refine fn_ok mixed (En_ok _ _ _ _) (pl := fun _ => (List.range 9).map Pl.one) (fn := Go.Proofs.Tryz.f3) (c := _) (by kernel_rfl) rfl (by decide) (by kernel_rfl) (E := E0) ?_
  conv => whnf
  refine use_pure h5 (nr1 (nr_aP p)) ⟨rfl, ?_⟩
  conv => whnf
  refine use_pure h5 (nr1 (nr_aP p)) ⟨rfl, ?_⟩
  conv => whnf
  refine use_pure h6 (nr1 (nr_aP p)) ⟨rfl, ?_⟩
  conv => whnf
  refine use_pure h7 (nr1 (nr_aP p)) ⟨rfl, ?_⟩
  conv => whnf
  split
  · rename_i e
    have e : (!decide ((fs.length : Int) = fs.length)) = true := e
    simp at e
  conv => whnf
  refine ⟨{ i : Nat // i ≤ fs.length }, fun i => St [(3, vF fs), (4, vF fs), (5, .sc (.int .i64 i.1))] [] [], fun i => fs.length - i.1, ⟨0, Nat.zero_le _⟩, ?_, ?_⟩
  · exact wk_of ⟨avle_refl _, avle_refl _, avle_refl _, trivial⟩ trivial rfl ⟨trivial, trivial, trivial, trivial⟩
  rintro ⟨i, hi⟩
  conv => whnf
  split
  · rename_i hlt
    have hlt : i < fs.length := by simpa using hlt
    have hwrap : IntKind.i64.wrap ((i : Int) + 1) = ((i + 1 : Nat) : Int) := (wrap_small _ (by omega) (by omega)).trans (by omega)
    have htk := take_cells (g := cF) (n := 5) (fun _ => rfl) fs i hlt
    have hir : (0 : Int) ≤ (i : Int) ∧ (i : Int) < fs.length := ⟨Int.natCast_nonneg _, Int.ofNat_lt.2 hlt⟩
    generalize fs[i] = f at htk
    conv => whnf
    refine And.intro (by kernel_rfl) ?_
    conv => whnf
    refine ⟨hir, _, htk, ?_⟩
    conv => whnf
    refine ⟨hir, _, htk, ?_⟩
    conv => whnf
    split
    · rename_i e
      have e : (!(decide (f.kind = f.kind) && (decide (f.clause = f.clause) && (decide (f.other = f.other) && (decide (f.off = f.off) && decide (f.name = f.name)))))) = true := e
      simp at e
    conv => whnf
    exact ⟨⟨i + 1, hlt⟩, wk_of ⟨avle_refl _, avle_refl _, avle_int hwrap, trivial⟩ trivial rfl ⟨trivial, trivial, trivial, trivial⟩, Nat.sub_lt_sub_left hlt (Nat.lt_succ_self i)⟩
  · conv => whnf
    exact ⟨rfl, rfl⟩
end Go.Proofs.YtjchgncgkhofhaaGreat.AL
