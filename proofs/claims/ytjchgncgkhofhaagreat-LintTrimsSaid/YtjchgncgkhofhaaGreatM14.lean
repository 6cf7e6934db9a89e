/- The program's functions in abstract words: lint.again. -/
import Derived.Test.YtjchgncgkhofhaaGreatM13
set_option linter.unusedVariables false
namespace Go.Proofs.YtjchgncgkhofhaaGreat.AL
open Go
attribute [local irreducible] PlainFn CallOk

theorem ok63 (xs ys : List Lt) (hl : xs.length ≤ 9223372036854775807) (g : Nat) (f : Lt → Lt → Bool) (hg : ∀ s t, POk g [aL s, aL t] (.sc (.bool (f s t)))) : POk 63 [vL xs, vL ys, .fn (.func g) [] []] (.sc (.bool (eqF f xs ys))) := by
  refine fn_ok mixed (En_ok _ _ _ _) (pl := fun _ => []) (fn := Go.Proofs.Tryz.f63) (c := _) (by kernel_rfl) rfl (by decide) (by kernel_rfl) (E := E0) ?_
  conv => whnf
  split
  · rename_i h3
    have h3 : (!decide ((xs.length : Int) = ys.length)) = true := h3
    have h3 : ¬ (xs.length = ys.length) := by simp at h3; omega
    conv => whnf
    exact ⟨rfl, by simp [eqF, h3]⟩
  rename_i h3
  have h3 : (!decide ((xs.length : Int) = ys.length)) = false := h3
  have h3 : xs.length = ys.length := by simp at h3; omega
  have hr : eqF f xs ys = allZ f xs ys := by simp [eqF, h3]
  conv => whnf
  refine ⟨{ j : Nat // allZ f xs ys = allZ f (xs.drop j) (ys.drop j) }, fun q => St [(1, vL ys), (2, .fn (.func g) [] []), (15, vL xs), (16, .sc (.int .i64 xs.length)), (17, .sc (.int .i64 q.1))] [] [], fun q => xs.length - q.1, ⟨0, rfl⟩, ?_, ?_⟩
  · exact wk_of ⟨avle_refl _, avle_refl _, avle_refl _, avle_refl _, avle_refl _, trivial⟩ trivial rfl ⟨trivial, trivial, trivial, trivial, trivial, trivial⟩
  rintro ⟨j, hj⟩
  conv => whnf
  split
  · rename_i hlt2
    have hlt2 : j < xs.length := by simpa using hlt2
    have hlt3 : j < ys.length := by omega
    have hwrap2 : IntKind.i64.wrap ((j : Int) + 1) = ((j + 1 : Nat) : Int) := (wrap_small _ (by omega) (by omega)).trans (by omega)
    rw [allZ_drop _ _ _ _ hlt2 hlt3] at hj
    conv => whnf
    refine ⟨⟨Int.natCast_nonneg _, Int.ofNat_lt.2 hlt2⟩, _, take_cells (g := cL) (n := 14) (fun _ => rfl) xs j hlt2, ?_⟩
    generalize xs[j] = s at hj
    conv => whnf
    refine ⟨⟨Int.natCast_nonneg _, Int.ofNat_lt.2 hlt3⟩, _, take_cells (g := cL) (n := 14) (fun _ => rfl) ys j hlt3, ?_⟩
    generalize ys[j] = t at hj
    conv => whnf
    refine use_pure (hg s t) (nr2 (nr_aL _) (nr_aL _)) ⟨rfl, ?_⟩
    conv => whnf
    split
    · rename_i e
      have e : (!f s t) = true := e
      have e : f s t = false := by simpa using e
      conv => whnf
      exact ⟨rfl, by rw [hr, hj, e]; rfl⟩
    · rename_i e
      have e : (!f s t) = false := e
      have e : f s t = true := by simpa using e
      rw [e, Bool.true_and] at hj
      conv => whnf
      exact ⟨⟨j + 1, hj⟩, wk_of ⟨avle_refl _, avle_refl _, avle_refl _, avle_refl _, avle_int hwrap2, trivial⟩ trivial rfl ⟨trivial, trivial, trivial, trivial, trivial, trivial⟩, Nat.sub_lt_sub_left hlt2 (Nat.lt_succ_self j)⟩
  · rename_i hlt2
    have hlt2 : xs.length ≤ j := by simpa using hlt2
    rw [List.drop_of_length_le hlt2, List.drop_of_length_le (by omega)] at hj
    conv => whnf
    exact ⟨rfl, by rw [hr, hj]; rfl⟩
theorem oble_set {t : NM} {s : ByteArray} {a b : Int} (h : a = b) : oble (.map (cM (setM t s a))) (.map (cM (setM t s b))) := by rw [h]; rfl
def bareE (x y : Tm) : Bool := decide (x.kind = y.kind) && (decide (x.num = y.num) && decide (x.text = y.text))
def plainV (x y : Tm) : Bool := !isVar x || !isVar y || anon x || anon y
def agA : NM → NM → List Tm → List Tm → Nat → Bool
  | t, b, x :: xs, y :: ys, i =>
    if plainV x y = true then (if bareE x y = true then agA t b xs ys (i + 1) else false)
    else if getM t x.text = getM b y.text then (if getM t x.text = 0 then agA (setM t x.text (i + 1 : Nat)) (setM b y.text (i + 1 : Nat)) xs ys (i + 1) else agA t b xs ys (i + 1)) else false
  | _, _, _, _, _ => true
theorem agA_drop (t b : NM) (xs ys : List Tm) (i : Nat) (h1 : i < xs.length) (h2 : i < ys.length) : agA t b (xs.drop i) (ys.drop i) i = if plainV xs[i] ys[i] = true then (if bareE xs[i] ys[i] = true then agA t b (xs.drop (i + 1)) (ys.drop (i + 1)) (i + 1) else false)
    else if getM t xs[i].text = getM b ys[i].text then (if getM t xs[i].text = 0 then agA (setM t xs[i].text (i + 1 : Nat)) (setM b ys[i].text (i + 1 : Nat)) (xs.drop (i + 1)) (ys.drop (i + 1)) (i + 1) else agA t b (xs.drop (i + 1)) (ys.drop (i + 1)) (i + 1)) else false := by
  rw [List.drop_eq_getElem_cons h1, List.drop_eq_getElem_cons h2]; rw [agA]
/-- lint.again -/
def agL (a b : Cl) : Bool := decide (a.head.pred = b.head.pred) && decide (a.head.args.length = b.head.args.length) && eqF alikeL a.body b.body && agA [] [] (allT a) (allT b) 0
theorem alike_len {a b : Lt} (h : alikeL a b = true) : (termsL a).length = (termsL b).length := by
  simp only [alikeL, Bool.and_eq_true, decide_eq_true_eq] at h; exact h.2
theorem allZ_len : ∀ (xs ys : List Lt), xs.length = ys.length → allZ alikeL xs ys = true → (xs.flatMap termsL).length = (ys.flatMap termsL).length
  | [], [], _, _ => rfl
  | x :: xs, y :: ys, hl, h => by
    simp only [allZ, Bool.and_eq_true] at h
    have h1 := alike_len h.1
    have h2 := allZ_len xs ys (by simpa using hl) h.2
    simp only [List.flatMap_cons, List.length_append]; omega
  | [], _ :: _, hl, _ => by cases hl
  | _ :: _, [], hl, _ => by cases hl
set_option maxHeartbeats 2000000 in
theorem ok40 (a b : Cl) (ha : Gd a) (hb : Gd b) : POk 40 [aCl a, aCl b] (.sc (.bool (agL a b))) := by
  have hab := ha.body
  have hbb := hb.body
  have hal := ha.all
  have hbl := hb.all
  have h48a := ok48 a (by omega) (by omega)
  have h48b := ok48 b (by omega) (by omega)
  have h63 := ok63 a.body b.body (by omega) 64 alikeL ok64
  refine fn_ok mixed (En_ok _ _ _ _) (pl := fun r => if r = 9 then (List.range 10).map Pl.one else if r = 13 then (List.range 12).map Pl.one else (List.range 5).map Pl.one) (fn := Go.Proofs.Tryz.f40) (c := _) (by kernel_rfl) rfl (by decide) (by kernel_rfl) (E := E0) ?_
  conv => whnf
  split
  · rename_i e1
    have e1 : (!decide (a.head.pred = b.head.pred)) = true := e1
    have e1 : decide (a.head.pred = b.head.pred) = false := by simpa using e1
    conv => whnf
    exact ⟨rfl, avb (by simp only [agL, e1]; rfl)⟩
  rename_i e1
  have e1 : (!decide (a.head.pred = b.head.pred)) = false := e1
  have e1 : decide (a.head.pred = b.head.pred) = true := by simpa using e1
  conv => whnf
  split
  · rename_i e2
    have e2 : (!decide ((a.head.args.length : Int) = b.head.args.length)) = true := e2
    have e2 : ¬ a.head.args.length = b.head.args.length := by simp at e2; omega
    conv => whnf
    exact ⟨rfl, avb (by simp only [agL, e1, decide_eq_false e2]; rfl)⟩
  rename_i e2
  have e2 : (!decide ((a.head.args.length : Int) = b.head.args.length)) = false := e2
  have e2 : a.head.args.length = b.head.args.length := by simp at e2; omega
  conv => whnf
  refine use_pure h63 (nr3 (nr_vL _) (nr_vL _) rfl) ⟨rfl, ?_⟩
  conv => whnf
  split
  · rename_i e3
    have e3 : (!eqF alikeL a.body b.body) = true := e3
    have e3 : eqF alikeL a.body b.body = false := by simpa using e3
    conv => whnf
    exact ⟨rfl, avb (by simp only [agL, e3, Bool.and_false]; rfl)⟩
  rename_i e3
  have e3 : (!eqF alikeL a.body b.body) = false := e3
  have e3 : eqF alikeL a.body b.body = true := by simpa using e3
  have hlen : (allT a).length = (allT b).length := by
    simp only [eqF, Bool.and_eq_true, decide_eq_true_eq] at e3
    have := allZ_len _ _ e3.1 e3.2
    simp only [allT, List.length_append]; omega
  have hag : agL a b = agA [] [] (allT a) (allT b) 0 := by simp only [agL, e1, decide_eq_true e2, e3]; rfl
  clear e1 e2 e3 h63
  conv => whnf
  refine use_pure h48b (nr1 (nr_aCl _)) ⟨rfl, ?_⟩
  conv => whnf
  refine use_pure h48a (nr1 (nr_aCl _)) ⟨rfl, ?_⟩
  generalize allT a = xs at *
  generalize allT b = ys at *
  clear h48a h48b
  conv => whnf
  refine ⟨{ p : Nat × NM × NM // agL a b = agA p.2.1 p.2.2 (xs.drop p.1) (ys.drop p.1) p.1 }, fun p => St [(5, .mp (.loc 39)), (6, .mp (.loc 40)), (7, vT ys), (44, vT xs), (45, .sc (.int .i64 xs.length)), (46, .sc (.int .i64 p.1.1))] [(39, .map (cM p.1.2.1)), (40, .map (cM p.1.2.2))] [], fun p => xs.length - p.1.1, ⟨(0, [], []), hag⟩, ?_, ?_⟩
  · exact wk_of ⟨avle_refl _, avle_refl _, avle_refl _, avle_refl _, avle_refl _, avle_refl _, trivial⟩ ⟨oble_map rfl, oble_map rfl, trivial⟩ rfl ⟨trivial, trivial, trivial, trivial, trivial, trivial, trivial⟩
  rintro ⟨⟨i, t, m⟩, hinv⟩
  simp only at hinv
  conv => whnf
  split
  case h_2 =>
    rename_i hlt
    have hlt : xs.length ≤ i := by simpa using hlt
    rw [List.drop_of_length_le hlt] at hinv
    have hinv : agL a b = true := by rw [hinv]; simp [agA]
    conv => whnf
    exact ⟨rfl, avb hinv.symm⟩
  rename_i hlt
  have hlt : i < xs.length := by simpa using hlt
  have hlt2 : i < ys.length := by omega
  have hwrap : IntKind.i64.wrap ((i : Int) + 1) = ((i + 1 : Nat) : Int) := (wrap_small _ (by omega) (by omega)).trans (by omega)
  rw [agA_drop _ _ _ _ _ hlt hlt2] at hinv
  have htk := take_cells (g := cT) (n := 4) (fun _ => rfl) xs i hlt
  have hir : (0 : Int) ≤ (i : Int) ∧ (i : Int) < xs.length := ⟨Int.natCast_nonneg _, Int.ofNat_lt.2 hlt⟩
  have htk2 := take_cells (g := cT) (n := 4) (fun _ => rfl) ys i hlt2
  have hir2 : (0 : Int) ≤ (i : Int) ∧ (i : Int) < ys.length := ⟨Int.natCast_nonneg _, Int.ofNat_lt.2 hlt2⟩
  generalize xs[i] = x at hinv htk
  generalize ys[i] = y at hinv htk2
  conv => whnf
  refine ⟨hir, _, htk, ?_⟩
  conv => whnf
  refine ⟨hir2, _, htk2, ?_⟩
  conv => whnf
  refine use_pure (ok49 x) rfl ⟨rfl, ?_⟩
  conv => whnf
  split
  · rename_i e
    have e : (!isVar x) = true := e
    have hp : plainV x y = true := by simp only [plainV, e, Bool.true_or]
    rw [if_pos hp] at hinv
    conv => whnf
    refine And.intro (by kernel_rfl) ?_
    conv => whnf
    refine use_ex (ok66 x) rfl ⟨rfl, ?_⟩
    conv => whnf
    refine use_ex (ok66 y) rfl ⟨rfl, ?_⟩
    conv => whnf
    split
    · rename_i q
      have q : (!(decide (x.kind = y.kind) && (decide (x.num = y.num) && (decide (x.text = y.text) && true)))) = true := q
      rw [Bool.and_true] at q
      rw [Bool.not_eq_true'] at q
      have q : bareE x y = false := q
      rw [if_neg (by rw [q]; decide)] at hinv
      conv => whnf
      exact ⟨rfl, avb hinv.symm⟩
    · rename_i q
      have q : (!(decide (x.kind = y.kind) && (decide (x.num = y.num) && (decide (x.text = y.text) && true)))) = false := q
      rw [Bool.and_true, Bool.not_eq_false'] at q
      have q : bareE x y = true := q
      rw [if_pos q] at hinv
      conv => whnf
      exact ⟨⟨(i + 1, t, m), hinv⟩, wk_of ⟨avle_refl _, avle_refl _, avle_refl _, avle_refl _, avle_refl _, avle_int hwrap, trivial⟩ ⟨oble_map rfl, oble_map rfl, trivial⟩ rfl ⟨trivial, trivial, trivial, trivial, trivial, trivial, trivial⟩, Nat.sub_lt_sub_left hlt (Nat.lt_succ_self i)⟩
  rename_i e
  have e : (!isVar x) = false := e
  conv => whnf
  refine use_pure (ok49 y) rfl ⟨rfl, ?_⟩
  conv => whnf
  split
  · rename_i e2
    have e2 : (!isVar y) = true := e2
    have hp : plainV x y = true := by simp only [plainV, e2, Bool.true_or, Bool.or_true]
    rw [if_pos hp] at hinv
    conv => whnf
    refine And.intro (by kernel_rfl) ?_
    conv => whnf
    refine use_ex (ok66 x) rfl ⟨rfl, ?_⟩
    conv => whnf
    refine use_ex (ok66 y) rfl ⟨rfl, ?_⟩
    conv => whnf
    split
    · rename_i q
      have q : (!(decide (x.kind = y.kind) && (decide (x.num = y.num) && (decide (x.text = y.text) && true)))) = true := q
      rw [Bool.and_true] at q
      rw [Bool.not_eq_true'] at q
      have q : bareE x y = false := q
      rw [if_neg (by rw [q]; decide)] at hinv
      conv => whnf
      exact ⟨rfl, avb hinv.symm⟩
    · rename_i q
      have q : (!(decide (x.kind = y.kind) && (decide (x.num = y.num) && (decide (x.text = y.text) && true)))) = false := q
      rw [Bool.and_true, Bool.not_eq_false'] at q
      have q : bareE x y = true := q
      rw [if_pos q] at hinv
      conv => whnf
      exact ⟨⟨(i + 1, t, m), hinv⟩, wk_of ⟨avle_refl _, avle_refl _, avle_refl _, avle_refl _, avle_refl _, avle_int hwrap, trivial⟩ ⟨oble_map rfl, oble_map rfl, trivial⟩ rfl ⟨trivial, trivial, trivial, trivial, trivial, trivial, trivial⟩, Nat.sub_lt_sub_left hlt (Nat.lt_succ_self i)⟩
  rename_i e2
  have e2 : (!isVar y) = false := e2
  conv => whnf
  refine use_pure (ok65 x) rfl ⟨rfl, ?_⟩
  conv => whnf
  split
  · rename_i e3
    have e3 : anon x = true := e3
    have hp : plainV x y = true := by simp only [plainV, e3, Bool.true_or, Bool.or_true]
    rw [if_pos hp] at hinv
    conv => whnf
    refine And.intro (by kernel_rfl) ?_
    conv => whnf
    refine use_ex (ok66 x) rfl ⟨rfl, ?_⟩
    conv => whnf
    refine use_ex (ok66 y) rfl ⟨rfl, ?_⟩
    conv => whnf
    split
    · rename_i q
      have q : (!(decide (x.kind = y.kind) && (decide (x.num = y.num) && (decide (x.text = y.text) && true)))) = true := q
      rw [Bool.and_true] at q
      rw [Bool.not_eq_true'] at q
      have q : bareE x y = false := q
      rw [if_neg (by rw [q]; decide)] at hinv
      conv => whnf
      exact ⟨rfl, avb hinv.symm⟩
    · rename_i q
      have q : (!(decide (x.kind = y.kind) && (decide (x.num = y.num) && (decide (x.text = y.text) && true)))) = false := q
      rw [Bool.and_true, Bool.not_eq_false'] at q
      have q : bareE x y = true := q
      rw [if_pos q] at hinv
      conv => whnf
      exact ⟨⟨(i + 1, t, m), hinv⟩, wk_of ⟨avle_refl _, avle_refl _, avle_refl _, avle_refl _, avle_refl _, avle_int hwrap, trivial⟩ ⟨oble_map rfl, oble_map rfl, trivial⟩ rfl ⟨trivial, trivial, trivial, trivial, trivial, trivial, trivial⟩, Nat.sub_lt_sub_left hlt (Nat.lt_succ_self i)⟩
  rename_i e3
  have e3 : anon x = false := e3
  conv => whnf
  refine use_pure (ok65 y) rfl ⟨rfl, ?_⟩
  conv => whnf
  split
  · rename_i e4
    have e4 : anon y = true := e4
    have hp : plainV x y = true := by simp only [plainV, e4, Bool.or_true]
    rw [if_pos hp] at hinv
    conv => whnf
    refine And.intro (by kernel_rfl) ?_
    conv => whnf
    refine use_ex (ok66 x) rfl ⟨rfl, ?_⟩
    conv => whnf
    refine use_ex (ok66 y) rfl ⟨rfl, ?_⟩
    conv => whnf
    split
    · rename_i q
      have q : (!(decide (x.kind = y.kind) && (decide (x.num = y.num) && (decide (x.text = y.text) && true)))) = true := q
      rw [Bool.and_true] at q
      rw [Bool.not_eq_true'] at q
      have q : bareE x y = false := q
      rw [if_neg (by rw [q]; decide)] at hinv
      conv => whnf
      exact ⟨rfl, avb hinv.symm⟩
    · rename_i q
      have q : (!(decide (x.kind = y.kind) && (decide (x.num = y.num) && (decide (x.text = y.text) && true)))) = false := q
      rw [Bool.and_true, Bool.not_eq_false'] at q
      have q : bareE x y = true := q
      rw [if_pos q] at hinv
      conv => whnf
      exact ⟨⟨(i + 1, t, m), hinv⟩, wk_of ⟨avle_refl _, avle_refl _, avle_refl _, avle_refl _, avle_refl _, avle_int hwrap, trivial⟩ ⟨oble_map rfl, oble_map rfl, trivial⟩ rfl ⟨trivial, trivial, trivial, trivial, trivial, trivial, trivial⟩, Nat.sub_lt_sub_left hlt (Nat.lt_succ_self i)⟩
  rename_i e4
  have e4 : anon y = false := e4
  have hp : ¬ plainV x y = true := by simp only [plainV, e, e2, e3, e4]; decide
  rw [if_neg hp] at hinv
  conv => whnf
  refine And.intro (by kernel_rfl) ?_
  conv => whnf
  refine ⟨cM t, rfl, ⟨rfl, keys_cM rfl t⟩, _, get_cM (k := 9) rfl t x.text, ?_⟩
  conv => whnf
  refine ⟨cM m, rfl, ⟨rfl, keys_cM rfl m⟩, _, get_cM (k := 9) rfl m y.text, ?_⟩
  conv => whnf
  split
  · rename_i q
    have q : (!decide (getM t x.text = getM m y.text)) = true := q
    rw [if_neg (by simpa using q)] at hinv
    conv => whnf
    exact ⟨rfl, avb hinv.symm⟩
  rename_i q
  have q : (!decide (getM t x.text = getM m y.text)) = false := q
  rw [if_pos (by simpa using q)] at hinv
  conv => whnf
  split
  · rename_i q2
    have q2 : decide (getM t x.text = 0) = true := q2
    rw [if_pos (of_decide_eq_true q2)] at hinv
    conv => whnf
    refine And.intro (by kernel_rfl) ?_
    conv => whnf
    refine ⟨cM t, rfl, ⟨rfl, rfl, keys_cM rfl t⟩, _, upd_cM (k := 9) rfl t x.text _, ?_⟩
    conv => whnf
    refine ⟨cM m, rfl, ⟨rfl, rfl, keys_cM rfl m⟩, _, upd_cM (k := 9) rfl m y.text _, ?_⟩
    conv => whnf
    exact ⟨⟨(i + 1, setM t x.text (i + 1 : Nat), setM m y.text (i + 1 : Nat)), hinv⟩, wk_of ⟨avle_refl _, avle_refl _, avle_refl _, avle_refl _, avle_refl _, avle_int hwrap, trivial⟩ ⟨oble_set hwrap, oble_set hwrap, trivial⟩ rfl ⟨trivial, trivial, trivial, trivial, trivial, trivial, trivial⟩, Nat.sub_lt_sub_left hlt (Nat.lt_succ_self i)⟩
  · rename_i q2
    have q2 : decide (getM t x.text = 0) = false := q2
    rw [if_neg (of_decide_eq_false q2)] at hinv
    conv => whnf
    exact ⟨⟨(i + 1, t, m), hinv⟩, wk_of ⟨avle_refl _, avle_refl _, avle_refl _, avle_refl _, avle_refl _, avle_int hwrap, trivial⟩ ⟨oble_map rfl, oble_map rfl, trivial⟩ rfl ⟨trivial, trivial, trivial, trivial, trivial, trivial, trivial⟩, Nat.sub_lt_sub_left hlt (Nat.lt_succ_self i)⟩
end Go.Proofs.YtjchgncgkhofhaaGreat.AL
/- The program's functions in abstract words: lint.things. -/
set_option linter.unusedVariables false
namespace Go.Proofs.YtjchgncgkhofhaaGreat.AL
open Go
attribute [local irreducible] PlainFn CallOk

def vTho (l : List Th) : AV := .vec true 4 l.length (l.flatMap cTh)
theorem vTho_app1 (a : List Th) (x : Th) : vTho (a ++ [x]) = .vec true 4 (a.length + 1) (a.flatMap cTh ++ cTh x) := by simp [vTho]
def oN (n : Int) : AObj := .cells 0 [.sc (.int .i64 n)]
theorem ldc_int {J : Int} {K : AV → Prop} (h : K (.sc (.int .i64 J))) : ldc E0 3 [.sc (.int .i64 J)] 0 K := h
/-- Operations to the end of their region, whatever comes behind. -/
theorem aops_to {E : Env} {all rest : List Oper} {st st' : ASt} {K : ASt → Prop} (h : ∀ K' : ASt → Prop, K' st' → aops E all rest st K') (k : K st') : aops E all rest st K := h K k
theorem ok67 (ts : List Tm) (n k : Nat) (gs : List AObj) (hk : gs[k]? = some (oN n)) (hl : ts.length ≤ 1000000) (hn : n ≤ 1000000000) :
    PlainFn prg 67 ∧ CallOk prg 67 [vT ts, .pp (.obj k) 0] gs fun v gs' => v = vTh (thP ts n) ∧ gs' = gs.set k (oN (thN ts n : Nat)) := by
  refine fn_ok mixed (En_ok _ _ _ _) (pl := fun _ => []) (fn := Go.Proofs.Tryz.f67) (c := _) (by kernel_rfl) rfl (by decide) (by kernel_rfl) (E := E0) ?_
  have hkl : k < gs.length := (List.getElem?_eq_some_iff.1 hk).1
  have hget : ∀ o : AObj, (gs.set k o)[k]? = some o := fun o => List.getElem?_set_self hkl
  have hget2 : ∀ o o' : AObj, ((gs.set k o).set k o')[k]? = some o' := fun o o' => List.getElem?_set_self (by simpa using hkl)
  have hset : gs = gs.set k (oN n) := by
    refine List.ext_getElem? fun i => ?_
    rw [List.getElem?_set]
    split
    · rename_i e; subst e; exact hk
    · rfl
  conv => whnf
  refine ⟨{ p : Nat × List Th × Nat × List AObj // thP ts n = p.2.1 ++ thP (ts.drop p.1) p.2.2.1 ∧ thN ts n = thN (ts.drop p.1) p.2.2.1 ∧ p.2.1.length = p.1 ∧ p.2.2.1 ≤ n + p.1 ∧ p.2.2.2 = gs.set k (oN (p.2.2.1 : Nat)) },
    fun p => St [(1, .pp (.obj k) 0), (5, vTho p.1.2.1), (9, vT ts), (10, .sc (.int .i64 ts.length)), (11, .sc (.int .i64 p.1.1))] [] p.1.2.2.2,
    fun p => ts.length - p.1.1, ⟨(0, [], n, gs), rfl, rfl, rfl, Nat.le_refl _, hset⟩, ?_, ?_⟩
  · exact wk_of ⟨avle_refl _, avle_nil _ _, avle_refl _, avle_refl _, avle_refl _, trivial⟩ trivial rfl ⟨trivial, trivial, trivial, trivial, trivial, trivial⟩
  rintro ⟨⟨i, out, j, G⟩, h1, h2, h3, h4, hG⟩
  simp only at h1 h2 h3 h4 hG
  obtain ⟨J, hJ⟩ : ∃ J : Int, J = (j : Int) := ⟨_, rfl⟩
  rw [← hJ] at hG
  have hGk : G[k]? = some (oN J) := by rw [hG]; exact hget _
  have hGs : ∀ o, (G.set k o)[k]? = some o := by rw [hG]; exact hget2 _
  have hGss : ∀ o, G.set k o = gs.set k o := by intro o; rw [hG, List.set_set]
  conv => whnf
  split
  · rename_i hlt
    have hlt : i < ts.length := by simpa using hlt
    have hwrap : IntKind.i64.wrap ((i : Int) + 1) = ((i + 1 : Nat) : Int) := (wrap_small _ (by omega) (by omega)).trans (by omega)
    have hwrap2 : IntKind.i64.wrap (J + 1) = ((j + 1 : Nat) : Int) := (wrap_small _ (by omega) (by omega)).trans (by omega)
    have htk := take_cells (g := cT) (n := 4) (fun _ => rfl) ts i hlt
    have hir : (0 : Int) ≤ (i : Int) ∧ (i : Int) < ts.length := ⟨Int.natCast_nonneg _, Int.ofNat_lt.2 hlt⟩
    rw [thP_drop _ _ _ hlt] at h1
    rw [thN_drop _ _ _ hlt] at h2
    generalize ts[i] = t at h1 h2 htk
    conv => whnf
    refine ⟨hir, _, htk, ?_⟩
    have h65 := ok65 t
    generalize anon t = b at h65 h1 h2
    conv => whnf
    refine use_pure h65 rfl ⟨rfl, ?_⟩
    clear h65
    rcases Bool.eq_false_or_eq_true b with rfl | rfl
    · rw [if_pos rfl] at h1 h2
      rw [← List.append_cons_assoc'] at h1
      have hgs : G.set k (oN (IntKind.i64.wrap (J + 1))) = gs.set k (oN ((j + 1 : Nat) : Int)) := by rw [hwrap2, hGss]
      have hslot : vTho (out ++ [⟨t.kind, t.num, t.text, (j + 1 : Nat)⟩]) = .vec true 4 (out.length + 1) (out.flatMap cTh ++ [.sc (.int .i64 t.kind), .sc (.int .i64 t.num), .sc (.string t.text), .sc (.int .i64 (IntKind.i64.wrap (J + 1)))]) := by rw [vTho_app1, hwrap2]; rfl
      conv => whnf
      refine ⟨_, hGk, ?_⟩
      refine ldc_int ?_
      show aops _ _ _ _ _
      refine aops_to (st' := ?sN) ?hN ?kN
      case hN =>
        intro K' hK'
        conv => whnf
        refine ⟨_, hGk, Nat.le_refl 1, ?_⟩
        conv => whnf
        exact hK'
      conv => whnf
      refine ⟨_, hGs _, ?_⟩
      conv => whnf
      refine ⟨⟨by show out.length + 1 ≤ _; omega, by show (out.length + 1) * 40 ≤ _; omega, rfl⟩, ?_⟩
      conv => whnf
      exact ⟨⟨(i + 1, out ++ [⟨t.kind, t.num, t.text, (j + 1 : Nat)⟩], j + 1, _), h1, h2, by simp [h3], by show j + 1 ≤ n + (i + 1); omega, hgs⟩,
        wk_of ⟨avle_refl _, avle_eq hslot, avle_refl _, avle_refl _, avle_int hwrap, trivial⟩ trivial rfl ⟨trivial, trivial, trivial, trivial, trivial, trivial⟩, Nat.sub_lt_sub_left hlt (Nat.lt_succ_self i)⟩
    · rw [if_neg (by decide)] at h1 h2
      rw [← List.append_cons_assoc'] at h1
      conv => whnf
      refine ⟨⟨by show out.length + 1 ≤ _; omega, by show (out.length + 1) * 40 ≤ _; omega, rfl⟩, ?_⟩
      conv => whnf
      exact ⟨⟨(i + 1, out ++ [⟨t.kind, t.num, t.text, 0⟩], j, G), h1, h2, by simp [h3], by show j ≤ n + (i + 1); omega, by rw [hG, hJ]⟩,
        wk_of ⟨avle_refl _, avle_eq (vTho_app1 _ _), avle_refl _, avle_refl _, avle_int hwrap, trivial⟩ trivial rfl ⟨trivial, trivial, trivial, trivial, trivial, trivial⟩, Nat.sub_lt_sub_left hlt (Nat.lt_succ_self i)⟩
  · rename_i hlt
    have hlt : ts.length ≤ i := by simpa using hlt
    rw [List.drop_of_length_le hlt] at h1 h2
    have h1 : thP ts n = out := by rw [h1]; simp [thP]
    have h2 : thN ts n = j := h2
    have hres : AV.vec false 4 out.length (out.flatMap cTh) = vTh (thP ts n) := by rw [h1]; rfl
    have hres2 : G = gs.set k (oN (thN ts n : Nat)) := by rw [h2, hG, hJ]
    conv => whnf
    exact ⟨hres, hres2⟩
end Go.Proofs.YtjchgncgkhofhaaGreat.AL
/- The program's functions in abstract words: lint's binding.take. -/
set_option linter.unusedVariables false
namespace Go.Proofs.YtjchgncgkhofhaaGreat.AL
open Go
attribute [local irreducible] PlainFn CallOk

abbrev BM := List (ByteArray × Th)
def getB (m : BM) (s : ByteArray) : Option Th := match m with
  | [] => none
  | (k, v) :: r => if s = k then some v else getB r s
def cB (m : BM) : List (AV × AV) := m.map fun p => (.sc (.string p.1), aTh p.2)
theorem keys_cB {E : Env} {k : Nat} (hk : (E.T k).ty = .str) (m : BM) : ∀ p ∈ cB m, keyOk E k p.1 = true := by
  intro p hp
  obtain ⟨q, _, rfl⟩ := List.mem_map.1 hp
  unfold keyOk
  simp only [hk]; rfl
theorem get_cB {E : Env} {k : Nat} (hk : (E.T k).ty = .str) (m : BM) (s : ByteArray) : (match (cB m).find? fun p => avEq E k (.sc (.string s)) p.1 == some true with
          | some p => (dm p.2, true)
          | none => (aTh zTh, false)) = (aTh ((getB m s).getD zTh), (getB m s).isSome) := by
  induction m with
  | nil => rfl
  | cons p r ih =>
    obtain ⟨k', w⟩ := p
    have : cB ((k', w) :: r) = (.sc (.string k'), aTh w) :: cB r := rfl
    rw [this, List.find?_cons, eq_str hk]
    by_cases e : s = k'
    · rw [decide_eq_true e]; simp only [getB, if_pos e]; rfl
    · rw [decide_eq_false e]; simp only [getB, if_neg e]; exact ih
theorem upd_cB {E : Env} {k : Nat} (hk : (E.T k).ty = .str) (m : BM) (s : ByteArray) (v : Th) (hn : getB m s = none) : (match (cB m).findIdx? fun p => avEq E k (.sc (.string s)) p.1 == some true with
          | some i => (cB m).set i (.sc (.string s), dm (aTh v))
          | none => cB m ++ [(.sc (.string s), dm (aTh v))]) = cB (m ++ [(s, v)]) := by
  induction m with
  | nil => rfl
  | cons p r ih =>
    obtain ⟨k', w⟩ := p
    have : cB ((k', w) :: r) = (.sc (.string k'), aTh w) :: cB r := rfl
    simp only [getB] at hn
    split at hn
    · cases hn
    rename_i e
    rw [this, List.findIdx?_cons, eq_str hk, decide_eq_false e]
    have ih := ih hn
    generalize hq : (List.findIdx? (fun p => avEq E k (AV.sc (Value.string s)) p.fst == some true) (cB r)) = q at ih ⊢
    have hc : cB ((k', w) :: r ++ [(s, v)]) = (.sc (.string k'), aTh w) :: cB (r ++ [(s, v)]) := rfl
    rw [hc, ← ih]
    cases q with
    | none => rfl
    | some i => rfl
def thingT (t : Tm) : Th := ⟨t.kind, t.num, t.text, 0⟩
/-- lint's take: what is bound behind it, the names that were bound by it, and whether it can be. -/
def takeP : BM → List Tm → List Th → List ByteArray → BM × List ByteArray × Bool
  | s, t :: ts, x :: xs, fr =>
    if anon t = true then takeP s ts xs fr
    else if isVar t = true then (match getB s t.text with
      | none => takeP (s ++ [(t.text, x)]) ts xs (fr ++ [t.text])
      | some y => if y = x then takeP s ts xs fr else (s, fr, false))
    else if thingT t = x then takeP s ts xs fr else (s, fr, false)
  | s, _, _, fr => (s, fr, true)
theorem takeP_drop (s : BM) (ts : List Tm) (xs : List Th) (fr : List ByteArray) (i : Nat) (h1 : i < ts.length) (h2 : i < xs.length) : takeP s (ts.drop i) (xs.drop i) fr =
    if anon ts[i] = true then takeP s (ts.drop (i + 1)) (xs.drop (i + 1)) fr
    else if isVar ts[i] = true then (match getB s ts[i].text with
      | none => takeP (s ++ [(ts[i].text, xs[i])]) (ts.drop (i + 1)) (xs.drop (i + 1)) (fr ++ [ts[i].text])
      | some y => if y = xs[i] then takeP s (ts.drop (i + 1)) (xs.drop (i + 1)) fr else (s, fr, false))
    else if thingT ts[i] = xs[i] then takeP s (ts.drop (i + 1)) (xs.drop (i + 1)) fr else (s, fr, false) := by
  rw [List.drop_eq_getElem_cons h1, List.drop_eq_getElem_cons h2]; rw [takeP]
theorem th_eq (x y : Th) : (decide (x.kind = y.kind) && (decide (x.num = y.num) && (decide (x.text = y.text) && decide (x.own = y.own)))) = decide (x = y) := by
  cases x; cases y; simp
def oB (s : BM) : AObj := .map (cB s)
def takV (r : BM × List ByteArray × Bool) : AV := .tup [vS r.2.1, .sc (.bool r.2.2)]
set_option maxHeartbeats 2000000 in
theorem ok69 (s : BM) (ts : List Tm) (xs : List Th) (k : Nat) (gs : List AObj) (hk : gs[k]? = some (oB s)) (hl : ts.length ≤ 1000000) (hx : ts.length ≤ xs.length) :
    PlainFn prg 69 ∧ CallOk prg 69 [.mp (.obj k), vT ts, vTh xs] gs fun v gs' => v = takV (takeP s ts xs []) ∧ gs' = gs.set k (oB (takeP s ts xs []).1) := by
  refine fn_ok mixed (En_ok _ _ _ _) (pl := fun r => if r = 10 then (List.range 8).map Pl.one else (List.range 6).map Pl.one) (fn := Go.Proofs.Tryz.f69) (c := _) (by kernel_rfl) rfl (by decide) (by kernel_rfl) (E := E0) ?_
  have hkl : k < gs.length := (List.getElem?_eq_some_iff.1 hk).1
  have hget : ∀ o : AObj, (gs.set k o)[k]? = some o := fun o => List.getElem?_set_self hkl
  have hset : gs = gs.set k (oB s) := by
    refine List.ext_getElem? fun i => ?_
    rw [List.getElem?_set]
    split
    · rename_i e; subst e; exact hk
    · rfl
  conv => whnf
  refine ⟨{ p : Nat × BM × List ByteArray × List AObj // takeP s ts xs [] = takeP p.2.1 (ts.drop p.1) (xs.drop p.1) p.2.2.1 ∧ p.2.2.1.length ≤ p.1 ∧ p.2.2.2 = gs.set k (oB p.2.1) },
    fun p => St [(0, .mp (.obj k)), (2, vTh xs), (8, vSo p.1.2.2.1), (14, vT ts), (15, .sc (.int .i64 ts.length)), (16, .sc (.int .i64 p.1.1))] [] p.1.2.2.2,
    fun p => ts.length - p.1.1, ⟨(0, s, [], gs), rfl, Nat.le_refl _, hset⟩, ?_, ?_⟩
  · exact wk_of ⟨avle_refl _, avle_refl _, avle_nil _ _, avle_refl _, avle_refl _, avle_refl _, trivial⟩ trivial rfl ⟨trivial, trivial, trivial, trivial, trivial, trivial, trivial⟩
  rintro ⟨⟨i, s', fr, G⟩, h1, h2, hG⟩
  simp only at h1 h2 hG
  have hGk : G[k]? = some (.map (cB s')) := by rw [hG]; exact hget _
  conv => whnf
  split
  case h_2 =>
    rename_i hlt
    have hlt : ts.length ≤ i := by simpa using hlt
    have hd : ts.drop i = [] := List.drop_of_length_le hlt
    have h1 : takeP s ts xs [] = (s', fr, true) := by rw [h1, hd, takeP]; intro _ _ _ _ h; cases h
    have hres : AV.tup [.vec false 1 fr.length (fr.flatMap cS), .sc (.bool true)] = takV (takeP s ts xs []) := by rw [h1]; rfl
    have hres2 : G = gs.set k (oB (takeP s ts xs []).1) := by rw [h1, hG]
    conv => whnf
    exact ⟨hres, hres2⟩
  rename_i hlt
  have hlt : i < ts.length := by simpa using hlt
  have hlt2 : i < xs.length := by omega
  have hwrap : IntKind.i64.wrap ((i : Int) + 1) = ((i + 1 : Nat) : Int) := (wrap_small _ (by omega) (by omega)).trans (by omega)
  have htk := take_cells (g := cT) (n := 4) (fun _ => rfl) ts i hlt
  have hir : (0 : Int) ≤ (i : Int) ∧ (i : Int) < ts.length := ⟨Int.natCast_nonneg _, Int.ofNat_lt.2 hlt⟩
  have htk2 := take_cells (g := cTh) (n := 4) (fun _ => rfl) xs i hlt2
  have hir2 : (0 : Int) ≤ (i : Int) ∧ (i : Int) < xs.length := ⟨Int.natCast_nonneg _, Int.ofNat_lt.2 hlt2⟩
  rw [takeP_drop _ _ _ _ _ hlt hlt2] at h1
  generalize ts[i] = t at h1 htk
  generalize xs[i] = x at h1 htk2
  have h65 := ok65 t
  have h49 := ok49 t
  generalize anon t = b at h65 h1
  generalize isVar t = bv at h49 h1
  have bad : ∀ (e : takeP s ts xs [] = (s', fr, false)), (AV.tup [.vec false 1 fr.length (fr.flatMap cS), .sc (.bool false)] = takV (takeP s ts xs [])) ∧ G = gs.set k (oB (takeP s ts xs []).1) := by
    intro e; rw [e]; exact ⟨rfl, hG⟩
  conv => whnf
  refine ⟨hir, _, htk, ?_⟩
  conv => whnf
  refine use_pure h65 rfl ⟨rfl, ?_⟩
  clear h65
  rcases Bool.eq_false_or_eq_true b with rfl | rfl
  · rw [if_pos rfl] at h1
    conv => whnf
    exact ⟨⟨(i + 1, s', fr, G), h1, by show fr.length ≤ i + 1; omega, hG⟩, wk_of ⟨avle_refl _, avle_refl _, avle_refl _, avle_refl _, avle_refl _, avle_int hwrap, trivial⟩ trivial rfl ⟨trivial, trivial, trivial, trivial, trivial, trivial, trivial⟩, Nat.sub_lt_sub_left hlt (Nat.lt_succ_self i)⟩
  rw [if_neg (by decide)] at h1
  conv => whnf
  refine use_pure h49 rfl ⟨rfl, ?_⟩
  clear h49
  rcases Bool.eq_false_or_eq_true bv with rfl | rfl
  · rw [if_pos rfl] at h1
    conv => whnf
    refine ⟨cB s', hGk, ⟨rfl, keys_cB rfl s'⟩, _, get_cB (k := 9) rfl s' t.text, ?_⟩
    generalize ho : getB s' t.text = o at h1
    cases o with
    | none =>
      simp only at h1
      have hup := fun v => upd_cB (E := E0.exact) (k := 9) rfl s' t.text v ho
      have hgs : G.set k (oB (s' ++ [(t.text, x)])) = gs.set k (oB (s' ++ [(t.text, x)])) := by rw [hG, List.set_set]
      conv => whnf
      refine And.intro (by kernel_rfl) ?_
      conv => whnf
      refine ⟨hir2, _, htk2, ?_⟩
      conv => whnf
      refine ⟨cB s', hGk, ⟨rfl, rfl, keys_cB rfl s'⟩, _, hup x, ?_⟩
      conv => whnf
      refine ⟨⟨by show fr.length + 1 ≤ _; omega, by show (fr.length + 1) * 16 ≤ _; omega, rfl⟩, ?_⟩
      conv => whnf
      exact ⟨⟨(i + 1, s' ++ [(t.text, x)], fr ++ [t.text], _), h1, by simp; omega, hgs⟩, wk_of ⟨avle_refl _, avle_refl _, avle_eq (vSo_app _ _), avle_refl _, avle_refl _, avle_int hwrap, trivial⟩ trivial rfl ⟨trivial, trivial, trivial, trivial, trivial, trivial, trivial⟩, Nat.sub_lt_sub_left hlt (Nat.lt_succ_self i)⟩
    | some y =>
      simp only at h1
      conv => whnf
      refine And.intro (by kernel_rfl) ?_
      conv => whnf
      refine ⟨hir2, _, htk2, ?_⟩
      conv => whnf
      split
      · rename_i e
        have e : (!(decide (y.kind = x.kind) && (decide (y.num = x.num) && (decide (y.text = x.text) && decide (y.own = x.own))))) = true := e
        rw [th_eq, Bool.not_eq_true'] at e
        rw [if_neg (of_decide_eq_false e)] at h1
        have hb := bad h1
        conv => whnf
        exact hb
      · rename_i e
        have e : (!(decide (y.kind = x.kind) && (decide (y.num = x.num) && (decide (y.text = x.text) && decide (y.own = x.own))))) = false := e
        rw [th_eq, Bool.not_eq_false'] at e
        rw [if_pos (of_decide_eq_true e)] at h1
        conv => whnf
        exact ⟨⟨(i + 1, s', fr, G), h1, by show fr.length ≤ i + 1; omega, hG⟩, wk_of ⟨avle_refl _, avle_refl _, avle_refl _, avle_refl _, avle_refl _, avle_int hwrap, trivial⟩ trivial rfl ⟨trivial, trivial, trivial, trivial, trivial, trivial, trivial⟩, Nat.sub_lt_sub_left hlt (Nat.lt_succ_self i)⟩
  · rw [if_neg (by decide)] at h1
    conv => whnf
    refine And.intro (by kernel_rfl) ?_
    conv => whnf
    refine ⟨hir2, _, htk2, ?_⟩
    conv => whnf
    split
    · rename_i e
      have e : (!(decide ((thingT t).kind = x.kind) && (decide ((thingT t).num = x.num) && (decide ((thingT t).text = x.text) && decide ((thingT t).own = x.own))))) = true := e
      rw [th_eq, Bool.not_eq_true'] at e
      rw [if_neg (of_decide_eq_false e)] at h1
      have hb := bad h1
      conv => whnf
      exact hb
    · rename_i e
      have e : (!(decide ((thingT t).kind = x.kind) && (decide ((thingT t).num = x.num) && (decide ((thingT t).text = x.text) && decide ((thingT t).own = x.own))))) = false := e
      rw [th_eq, Bool.not_eq_false'] at e
      rw [if_pos (of_decide_eq_true e)] at h1
      conv => whnf
      exact ⟨⟨(i + 1, s', fr, G), h1, by show fr.length ≤ i + 1; omega, hG⟩, wk_of ⟨avle_refl _, avle_refl _, avle_refl _, avle_refl _, avle_refl _, avle_int hwrap, trivial⟩ trivial rfl ⟨trivial, trivial, trivial, trivial, trivial, trivial, trivial⟩, Nat.sub_lt_sub_left hlt (Nat.lt_succ_self i)⟩
end Go.Proofs.YtjchgncgkhofhaaGreat.AL
/- The program's functions in abstract words: lint.covers$1 (place). -/
set_option linter.unusedVariables false
namespace Go.Proofs.YtjchgncgkhofhaaGreat.AL
open Go
attribute [local irreducible] PlainFn CallOk

def cTT (l : List Th) : List AV := [vTh l]
def vTTo (l : List (List Th)) : AV := .vec true 1 l.length (l.flatMap cTT)
def fnP : AV := .fn (.func 70) [] [.pp (.obj 0) 0, .pp (.obj 1) 0, .pp (.obj 5) 0, .pp (.obj 3) 0, .pp (.obj 6) 0]
/-- lint.covers$1: whether the literals can be placed -/
def placeP (z : List (Lt × List Th)) : List Lt → BM → Bool
  | [], _ => true
  | l :: r, s => z.any fun p => alikeL l p.1 && ((takeP s (termsL l) p.2 []).2.2 && placeP z r (takeP s (termsL l) p.2 []).1)
/-- What the objects of a call of covers hold. -/
structure Objs (a b : Cl) (bt : List (List Th)) (s : BM) (gs : List AObj) : Prop where
  o0 : gs[0]? = some (.cells 0 (cC a))
  o1 : gs[1]? = some (.cells 0 (cC b))
  o3 : gs[3]? = some (.cells 0 [vTTo bt])
  o4 : gs[4]? = some (.map (cB s))
  o5 : gs[5]? = some (.cells 0 [.mp (.obj 4)])
  o6 : gs[6]? = some (.cells 0 [fnP])
theorem Objs.put {a b : Cl} {bt : List (List Th)} {s : BM} {gs : List AObj} (h : Objs a b bt s gs) (s' : BM) : Objs a b bt s' (gs.set 4 (oB s')) := by
  have hl : 4 < gs.length := (List.getElem?_eq_some_iff.1 h.o4).1
  have hne : ∀ i, i ≠ 4 → (gs.set 4 (oB s'))[i]? = gs[i]? := fun i hi => List.getElem?_set_ne (fun e => hi e.symm)
  exact ⟨(hne 0 (by decide)).trans h.o0, (hne 1 (by decide)).trans h.o1, (hne 3 (by decide)).trans h.o3, List.getElem?_set_self hl, (hne 5 (by decide)).trans h.o5, (hne 6 (by decide)).trans h.o6⟩
theorem Objs.same {a b : Cl} {bt : List (List Th)} {s : BM} {gs : List AObj} (h : Objs a b bt s gs) : gs.set 4 (oB s) = gs := by
  refine List.ext_getElem? fun i => ?_
  rw [List.getElem?_set]
  split
  · rename_i e; subst e
    have hl : 4 < gs.length := (List.getElem?_eq_some_iff.1 h.o4).1
    rw [if_pos hl, h.o4]; rfl
  · rfl
theorem getB_app (s r : BM) (q : ByteArray) (h : getB s q = none) : getB (s ++ r) q = getB r q := by
  induction s with
  | nil => rfl
  | cons p s ih =>
    obtain ⟨k, v⟩ := p
    simp only [getB] at h
    split at h
    · cases h
    rename_i e
    show getB ((k, v) :: (s ++ r)) q = _
    simp only [getB, if_neg e]
    exact ih h
theorem take_len : ∀ (ts : List Tm) (xs : List Th) (s : BM) (fr : List ByteArray), (takeP s ts xs fr).2.1.length ≤ fr.length + ts.length
  | [], xs, s, fr => by
    rw [takeP]
    · simp
    · intro _ _ _ _ h; cases h
  | t :: ts, [], s, fr => by
    rw [takeP]
    · simp
    · intro _ _ _ _ _ h; cases h
  | t :: ts, x :: xs, s, fr => by
    rw [takeP]
    simp only [List.length_cons]
    split
    · have := take_len ts xs s fr; omega
    split
    · cases getB s t.text with
      | none => have := take_len ts xs (s ++ [(t.text, x)]) (fr ++ [t.text]); simp at this ⊢; omega
      | some y =>
        simp only
        split
        · have := take_len ts xs s fr; omega
        · simp
    · split
      · have := take_len ts xs s fr; omega
      · simp
/-- What take binds is bound at the end, under names that were free. -/
theorem take_new : ∀ (ts : List Tm) (xs : List Th) (s0 s : BM) (fr : List ByteArray) (ad : BM), s = s0 ++ ad → fr = ad.map (·.1) → (∀ q ∈ fr, getB s0 q = none) →
    ∃ ad', (takeP s ts xs fr).1 = s0 ++ ad' ∧ (takeP s ts xs fr).2.1 = ad'.map (·.1) ∧ ∀ q ∈ (takeP s ts xs fr).2.1, getB s0 q = none
  | [], xs, s0, s, fr, ad, h1, h2, h3 => by
    rw [takeP]
    · exact ⟨ad, h1, h2, h3⟩
    · intro _ _ _ _ h; cases h
  | t :: ts, [], s0, s, fr, ad, h1, h2, h3 => by
    rw [takeP]
    · exact ⟨ad, h1, h2, h3⟩
    · intro _ _ _ _ _ h; cases h
  | t :: ts, x :: xs, s0, s, fr, ad, h1, h2, h3 => by
    rw [takeP]
    split
    · exact take_new ts xs s0 s fr ad h1 h2 h3
    split
    · cases ho : getB s t.text with
      | none =>
        refine take_new ts xs s0 _ _ (ad ++ [(t.text, x)]) (by rw [h1, List.append_assoc]) (by rw [h2]; simp) fun q hq => ?_
        rcases List.mem_append.1 hq with hq | hq
        · exact h3 q hq
        · simp at hq; subst hq
          cases hs : getB s0 t.text with
          | none => rfl
          | some y =>
            have : getB s t.text = some y := by
              rw [h1]
              clear ho h1 h2 h3
              induction s0 with
              | nil => simp [getB] at hs
              | cons p r ih =>
                obtain ⟨k, v⟩ := p
                simp only [getB] at hs
                show getB ((k, v) :: (r ++ ad)) t.text = _
                simp only [getB]
                split
                · rename_i e; rw [if_pos e] at hs; exact hs
                · rename_i e; rw [if_neg e] at hs; exact ih hs
            rw [this] at ho; cases ho
      | some y =>
        simp only
        split
        · exact take_new ts xs s0 s fr ad h1 h2 h3
        · exact ⟨ad, h1, h2, h3⟩
    · split
      · exact take_new ts xs s0 s fr ad h1 h2 h3
      · exact ⟨ad, h1, h2, h3⟩
theorem del_cB {E : Env} {k : Nat} (hk : (E.T k).ty = .str) (s r : BM) (q : ByteArray) (x : Th) (hn : getB s q = none) : (match (cB (s ++ (q, x) :: r)).findIdx? fun p => avEq E k (.sc (.string q)) p.1 == some true with
          | some i => (cB (s ++ (q, x) :: r)).eraseIdx i
          | none => cB (s ++ (q, x) :: r)) = cB (s ++ r) := by
  induction s with
  | nil =>
    have : cB ([] ++ (q, x) :: r) = (.sc (.string q), aTh x) :: cB r := rfl
    rw [this, List.findIdx?_cons, eq_str hk, decide_eq_true rfl]; rfl
  | cons p s ih =>
    obtain ⟨k', w⟩ := p
    have : cB ((k', w) :: s ++ (q, x) :: r) = (.sc (.string k'), aTh w) :: cB (s ++ (q, x) :: r) := rfl
    simp only [getB] at hn
    split at hn
    · cases hn
    rename_i e
    rw [this, List.findIdx?_cons, eq_str hk, decide_eq_false e]
    have ih := ih hn
    generalize hq : (List.findIdx? (fun p => avEq E k (AV.sc (Value.string q)) p.fst == some true) (cB (s ++ (q, x) :: r))) = o at ih ⊢
    have hc : cB ((k', w) :: s ++ r) = (.sc (.string k'), aTh w) :: cB (s ++ r) := rfl
    rw [hc, ← ih]
    cases o with
    | none => rfl
    | some i => rfl
def capsP : List AV := [.pp (.obj 0) 0, .pp (.obj 1) 0, .pp (.obj 5) 0, .pp (.obj 3) 0, .pp (.obj 6) 0]
noncomputable abbrev EP : Env := E1 (fun _ => false) (fun g => !(Nat.beq g 69 || Nat.beq g 70))
set_option maxHeartbeats 4000000 in
theorem ok70 (a b : Cl) (bt : List (List Th)) (ha : a.body.length ≤ 1000) (hb : b.body.length ≤ 1000) (hbt : bt.length = b.body.length) (hta : ∀ l ∈ a.body, (termsL l).length ≤ 1000000)
    (hlen : ∀ p ∈ b.body.zip bt, p.2.length = (termsL p.1).length) : ∀ (n kk : Nat) (s : BM) (gs : List AObj), kk + n = a.body.length → Objs a b bt s gs →
    PlainFn prg 70 ∧ CallOk prg 70 (.sc (.int .i64 kk) :: capsP) gs fun v gs' => v = .sc (.bool (placeP (b.body.zip bt) (a.body.drop kk) s)) ∧ ∃ s', gs' = gs.set 4 (oB s') ∧ (placeP (b.body.zip bt) (a.body.drop kk) s = false → s' = s) := by
  intro n
  induction n with
  | zero =>
    intro kk s gs hkk ho
    have hd : a.body.drop kk = [] := List.drop_of_length_le (by omega)
    have hres : AV.sc (.bool true) = .sc (.bool (placeP (b.body.zip bt) (a.body.drop kk) s)) ∧ ∃ s', gs = gs.set 4 (oB s') ∧ (placeP (b.body.zip bt) (a.body.drop kk) s = false → s' = s) := by
      rw [hd]; exact ⟨rfl, s, ho.same.symm, fun _ => rfl⟩
    have hdec : decide ((kk : Int) = a.body.length) = true := decide_eq_true (by omega)
    refine fn_ok mixed (En_ok _ _ _ _) (pl := fun _ => []) (fn := Go.Proofs.Tryz.f70) (c := _) (by kernel_rfl) rfl (by decide) (by kernel_rfl) (E := EP) ?_
    conv => whnf
    refine ⟨_, ho.o0, ?_⟩
    conv => whnf
    split
    case h_2 => rename_i e; have e : decide ((kk : Int) = a.body.length) = false := e; rw [hdec] at e; cases e
    conv => whnf
    exact hres
  | succ n ih =>
    intro kk s gs hkk ho
    have hkl : kk < a.body.length := by omega
    have hd : a.body.drop kk = a.body[kk] :: a.body.drop (kk + 1) := List.drop_eq_getElem_cons hkl
    have hdec : decide ((kk : Int) = a.body.length) = false := decide_eq_false (by omega)
    have htkA := take_cells (g := cL) (n := 14) (fun _ => rfl) a.body kk hkl
    have hirA : (0 : Int) ≤ (kk : Int) ∧ (kk : Int) < a.body.length := ⟨Int.natCast_nonneg _, Int.ofNat_lt.2 hkl⟩
    have htl := hta a.body[kk] (List.getElem_mem hkl)
    have hwrapk : IntKind.i64.wrap ((kk : Int) + 1) = ((kk + 1 : Nat) : Int) := (wrap_small _ (by omega) (by omega)).trans (by omega)
    generalize a.body[kk] = l at hd htkA htl
    generalize hz : b.body.zip bt = z at *
    have hzl : z.length = b.body.length := by rw [← hz]; simp [hbt]
    rw [hd]
    have hpl : placeP z (l :: a.body.drop (kk + 1)) s = z.any fun p => alikeL l p.1 && ((takeP s (termsL l) p.2 []).2.2 && placeP z (a.body.drop (kk + 1)) (takeP s (termsL l) p.2 []).1) := rfl
    generalize hres0 : placeP z (l :: a.body.drop (kk + 1)) s = res at hpl
    refine fn_ok mixed (En_ok _ _ _ _) (pl := fun r => if r = 6 then (List.range 8).map Pl.one else (List.range 17).map Pl.one) (fn := Go.Proofs.Tryz.f70) (c := _) (by kernel_rfl) rfl (by decide) (by kernel_rfl) (E := EP) ?_
    conv => whnf
    refine ⟨_, ho.o0, ?_⟩
    conv => whnf
    split
    case h_1 => rename_i e; have e : decide ((kk : Int) = a.body.length) = true := e; rw [hdec] at e; cases e
    conv => whnf
    refine ⟨_, ho.o1, ?_⟩
    conv => whnf
    refine ⟨{ j : Nat // res = (z.drop j).any fun p => alikeL l p.1 && ((takeP s (termsL l) p.2 []).2.2 && placeP z (a.body.drop (kk + 1)) (takeP s (termsL l) p.2 []).1) }, fun j => St [(0, .sc (.int .i64 kk)), (1, .pp (.obj 0) 0), (2, .pp (.obj 1) 0), (3, .pp (.obj 5) 0), (4, .pp (.obj 3) 0), (5, .pp (.obj 6) 0), (20, vL b.body), (21, .sc (.int .i64 b.body.length)), (22, .sc (.int .i64 j.1))] [] gs, fun j => b.body.length - j.1, ⟨0, hpl⟩, ?_, ?_⟩
    · exact wk_of ⟨avle_refl _, avle_refl _, avle_refl _, avle_refl _, avle_refl _, avle_refl _, avle_refl _, avle_refl _, avle_refl _, trivial⟩ trivial rfl ⟨trivial, trivial, trivial, trivial, trivial, trivial, trivial, trivial, trivial, trivial⟩
    rintro ⟨j, hj⟩
    conv => whnf
    split
    case h_2 =>
      rename_i hlt
      have hlt : b.body.length ≤ j := by simpa using hlt
      rw [List.drop_of_length_le (by omega)] at hj
      have hj : res = false := hj
      have hres : AV.sc (.bool false) = .sc (.bool res) ∧ ∃ s', gs = gs.set 4 (oB s') ∧ (res = false → s' = s) := by
        rw [hj]; exact ⟨rfl, s, ho.same.symm, fun _ => rfl⟩
      conv => whnf
      exact hres
    rename_i hlt
    have hlt : j < b.body.length := by simpa using hlt
    have hlt2 : j < bt.length := by omega
    have hltz : j < z.length := by omega
    have hwrap : IntKind.i64.wrap ((j : Int) + 1) = ((j + 1 : Nat) : Int) := (wrap_small _ (by omega) (by omega)).trans (by omega)
    rw [any_drop _ _ _ hltz] at hj
    have hzj : z[j] = (b.body[j], bt[j]) := by subst hz; exact List.getElem_zip ..
    have hlj := hlen z[j] (List.getElem_mem hltz)
    rw [hzj] at hj hlj
    simp only at hj hlj
    have htk := take_cells (g := cL) (n := 14) (fun _ => rfl) b.body j hlt
    have hir : (0 : Int) ≤ (j : Int) ∧ (j : Int) < b.body.length := ⟨Int.natCast_nonneg _, Int.ofNat_lt.2 hlt⟩
    have htkB := take_cells (g := cTT) (n := 1) (fun _ => rfl) bt j hlt2
    have hirB : (0 : Int) ≤ (j : Int) ∧ (j : Int) < bt.length := ⟨Int.natCast_nonneg _, Int.ofNat_lt.2 hlt2⟩
    clear hzj
    generalize b.body[j] = m at hj hlj htk
    generalize bt[j] = xs at hj hlj htkB
    have hal := ok64 l m
    have hall : alikeL l m = true → (termsL l).length = xs.length := fun e => by rw [hlj]; exact alike_len e
    generalize alikeL l m = al at hj hal hall
    conv => whnf
    refine ⟨hir, _, htk, ?_⟩
    conv => whnf
    refine And.intro (by kernel_rfl) ?_
    conv => whnf
    refine ⟨_, ho.o0, ?_⟩
    conv => whnf
    refine ⟨hirA, _, htkA, ?_⟩
    conv => whnf
    refine use_ex hal (nr2 (nr_aL _) (nr_aL _)) ⟨rfl, ?_⟩
    rcases Bool.eq_false_or_eq_true al with rfl | rfl
    case inr =>
      rw [Bool.false_and, Bool.false_or] at hj
      conv => whnf
      exact ⟨⟨j + 1, hj⟩, wk_of ⟨avle_refl _, avle_refl _, avle_refl _, avle_refl _, avle_refl _, avle_refl _, avle_refl _, avle_refl _, avle_int hwrap, trivial⟩ trivial rfl ⟨trivial, trivial, trivial, trivial, trivial, trivial, trivial, trivial, trivial, trivial⟩, Nat.sub_lt_sub_left hlt (Nat.lt_succ_self j)⟩
    have hall := hall rfl
    rw [Bool.true_and] at hj
    obtain ⟨ad, hs1, hfr, hfree⟩ := take_new (termsL l) xs s s [] [] (by simp) rfl (by simp)
    have h69 := ok69 s (termsL l) xs 4 gs ho.o4 (by omega) (by omega)
    have hput := ho.put (takeP s (termsL l) xs []).1
    have hadb0 := take_len (termsL l) xs s []
    have hadb : ad.length ≤ 9223372036854775806 := by
      rw [hfr] at hadb0; simp at hadb0; omega
    generalize takeP s (termsL l) xs [] = tk at hj hs1 hfr hfree h69 hput
    obtain ⟨s1, fr, okb⟩ := tk
    simp only at hj hs1 hfr hfree hput
    conv => whnf
    refine And.intro (by kernel_rfl) ?_
    conv => whnf
    refine ⟨_, ho.o5, ?_⟩
    conv => whnf
    refine ⟨_, ho.o0, ?_⟩
    conv => whnf
    refine ⟨hirA, _, htkA, ?_⟩
    conv => whnf
    refine use_ex (ok68 l) (nr1 (nr_aL _)) ⟨rfl, ?_⟩
    conv => whnf
    refine ⟨_, ho.o3, ?_⟩
    conv => whnf
    refine ⟨hirB, _, htkB, ?_⟩
    conv => whnf
    refine ⟨takV (s1, fr, okb), gs.set 4 (oB s1), h69, ?_⟩
    generalize hG1 : gs.set 4 (oB s1) = G1 at hput
    rcases Bool.eq_false_or_eq_true okb with rfl | rfl
    · rw [Bool.true_and] at hj
      conv => whnf
      refine ⟨_, hput.o6, ?_⟩
      conv => whnf
      refine use_c (show PlainFn prg 70 ∧ CallOk prg 70 (.sc (.int .i64 (IntKind.i64.wrap ((kk : Int) + 1))) :: capsP) G1 _ from by rw [hwrapk]; exact ih (kk + 1) s1 G1 (by omega) hput) ?_
      rintro v gs2 ⟨rfl, s2, rfl, hs2⟩
      generalize placeP z (a.body.drop (kk + 1)) s1 = pr at hj hs2
      rcases Bool.eq_false_or_eq_true pr with rfl | rfl
      · rw [Bool.true_or] at hj
        have hres : AV.sc (.bool true) = .sc (.bool res) ∧ ∃ s', G1.set 4 (oB s2) = gs.set 4 (oB s') ∧ (res = false → s' = s) := by
          rw [hj]; exact ⟨rfl, s2, by rw [← hG1, List.set_set], fun h => by cases h⟩
        conv => whnf
        exact hres
      · rw [Bool.false_or] at hj
        have hs2 := hs2 rfl
        subst hs2
        rw [hput.same]
        subst hs1
        subst hfr
        conv => whnf
        refine ⟨{ q : Nat × List AObj // Objs a b bt (s ++ ad.drop q.1) q.2 ∧ q.2 = gs.set 4 (oB (s ++ ad.drop q.1)) }, fun q => St [(0, .sc (.int .i64 kk)), (1, .pp (.obj 0) 0), (2, .pp (.obj 1) 0), (3, .pp (.obj 5) 0), (4, .pp (.obj 3) 0), (5, .pp (.obj 6) 0), (20, vL b.body), (21, .sc (.int .i64 b.body.length)), (22, .sc (.int .i64 j)), (57, vS (ad.map (·.1))), (58, .sc (.int .i64 ((ad.map (·.1)).length : Nat))), (59, .sc (.int .i64 q.1.1))] [] q.1.2, fun q => ad.length - q.1.1, ⟨(0, G1), hput, hG1.symm⟩, ?_, ?_⟩
        · exact wk_of ⟨avle_refl _, avle_refl _, avle_refl _, avle_refl _, avle_refl _, avle_refl _, avle_refl _, avle_refl _, avle_refl _, avle_refl _, avle_refl _, avle_refl _, trivial⟩ trivial rfl ⟨trivial, trivial, trivial, trivial, trivial, trivial, trivial, trivial, trivial, trivial, trivial, trivial, trivial⟩
        rintro ⟨⟨q, G⟩, hO, hG⟩
        simp only at hO hG
        conv => whnf
        split
        · rename_i hq
          have hq : q < (ad.map (·.1)).length := by simpa using hq
          have hq2 : q < ad.length := by simpa using hq
          have hadl : ad.length ≤ 9223372036854775806 := hadb
          have hwrapq : IntKind.i64.wrap ((q : Int) + 1) = ((q + 1 : Nat) : Int) := (wrap_small _ (by omega) (by omega)).trans (by omega)
          have htkq := take_cells (g := cS) (n := 1) (fun _ => rfl) (ad.map (·.1)) q hq
          have hirq : (0 : Int) ≤ (q : Int) ∧ (q : Int) < (ad.map (·.1)).length := ⟨Int.natCast_nonneg _, Int.ofNat_lt.2 hq⟩
          have hfq := hfree (ad.map (·.1))[q] (List.getElem_mem hq)
          have hdq : ad.drop q = ad[q] :: ad.drop (q + 1) := List.drop_eq_getElem_cons hq2
          have hnm : (ad.map (·.1))[q] = ad[q].1 := by simp
          rw [hnm] at htkq hfq
          rw [hdq] at hO
          generalize ad[q] = pq at hdq htkq hfq hO
          obtain ⟨nm, xq⟩ := pq
          simp only at htkq hfq
          have hdel := del_cB (E := EP) (k := 9) rfl s (ad.drop (q + 1)) nm xq hfq
          have hOn : Objs a b bt (s ++ ad.drop (q + 1)) (G.set 4 (oB (s ++ ad.drop (q + 1)))) := hO.put _
          have hGn : G.set 4 (oB (s ++ ad.drop (q + 1))) = gs.set 4 (oB (s ++ ad.drop (q + 1))) := by rw [hG, List.set_set]
          conv => whnf
          refine ⟨hirq, _, htkq, ?_⟩
          conv => whnf
          refine ⟨_, hO.o5, ?_⟩
          conv => whnf
          refine ⟨_, hO.o4, ⟨rfl, keys_cB rfl _⟩, _, hdel, ?_⟩
          conv => whnf
          exact ⟨⟨(q + 1, _), hOn, hGn⟩, wk_of ⟨avle_refl _, avle_refl _, avle_refl _, avle_refl _, avle_refl _, avle_refl _, avle_refl _, avle_refl _, avle_refl _, avle_refl _, avle_refl _, avle_int hwrapq, trivial⟩ trivial rfl ⟨trivial, trivial, trivial, trivial, trivial, trivial, trivial, trivial, trivial, trivial, trivial, trivial, trivial⟩, Nat.sub_lt_sub_left hq2 (Nat.lt_succ_self q)⟩
        · rename_i hq
          have hq : ad.length ≤ q := by simpa using hq
          rw [List.drop_of_length_le hq, List.append_nil, ho.same] at hG
          conv => whnf
          exact ⟨⟨j + 1, hj⟩, wk_of ⟨avle_refl _, avle_refl _, avle_refl _, avle_refl _, avle_refl _, avle_refl _, avle_refl _, avle_refl _, avle_int hwrap, trivial⟩ trivial hG ⟨trivial, trivial, trivial, trivial, trivial, trivial, trivial, trivial, trivial, trivial⟩, Nat.sub_lt_sub_left hlt (Nat.lt_succ_self j)⟩
    · rw [Bool.false_and, Bool.false_or] at hj
      subst hs1
      subst hfr
      conv => whnf
      refine ⟨{ q : Nat × List AObj // Objs a b bt (s ++ ad.drop q.1) q.2 ∧ q.2 = gs.set 4 (oB (s ++ ad.drop q.1)) }, fun q => St [(0, .sc (.int .i64 kk)), (1, .pp (.obj 0) 0), (2, .pp (.obj 1) 0), (3, .pp (.obj 5) 0), (4, .pp (.obj 3) 0), (5, .pp (.obj 6) 0), (20, vL b.body), (21, .sc (.int .i64 b.body.length)), (22, .sc (.int .i64 j)), (57, vS (ad.map (·.1))), (58, .sc (.int .i64 ((ad.map (·.1)).length : Nat))), (59, .sc (.int .i64 q.1.1))] [] q.1.2, fun q => ad.length - q.1.1, ⟨(0, G1), hput, hG1.symm⟩, ?_, ?_⟩
      · exact wk_of ⟨avle_refl _, avle_refl _, avle_refl _, avle_refl _, avle_refl _, avle_refl _, avle_refl _, avle_refl _, avle_refl _, avle_refl _, avle_refl _, avle_refl _, trivial⟩ trivial rfl ⟨trivial, trivial, trivial, trivial, trivial, trivial, trivial, trivial, trivial, trivial, trivial, trivial, trivial⟩
      rintro ⟨⟨q, G⟩, hO, hG⟩
      simp only at hO hG
      conv => whnf
      split
      · rename_i hq
        have hq : q < (ad.map (·.1)).length := by simpa using hq
        have hq2 : q < ad.length := by simpa using hq
        have hadl : ad.length ≤ 9223372036854775806 := hadb
        have hwrapq : IntKind.i64.wrap ((q : Int) + 1) = ((q + 1 : Nat) : Int) := (wrap_small _ (by omega) (by omega)).trans (by omega)
        have htkq := take_cells (g := cS) (n := 1) (fun _ => rfl) (ad.map (·.1)) q hq
        have hirq : (0 : Int) ≤ (q : Int) ∧ (q : Int) < (ad.map (·.1)).length := ⟨Int.natCast_nonneg _, Int.ofNat_lt.2 hq⟩
        have hfq := hfree (ad.map (·.1))[q] (List.getElem_mem hq)
        have hdq : ad.drop q = ad[q] :: ad.drop (q + 1) := List.drop_eq_getElem_cons hq2
        have hnm : (ad.map (·.1))[q] = ad[q].1 := by simp
        rw [hnm] at htkq hfq
        rw [hdq] at hO
        generalize ad[q] = pq at hdq htkq hfq hO
        obtain ⟨nm, xq⟩ := pq
        simp only at htkq hfq
        have hdel := del_cB (E := EP) (k := 9) rfl s (ad.drop (q + 1)) nm xq hfq
        have hOn : Objs a b bt (s ++ ad.drop (q + 1)) (G.set 4 (oB (s ++ ad.drop (q + 1)))) := hO.put _
        have hGn : G.set 4 (oB (s ++ ad.drop (q + 1))) = gs.set 4 (oB (s ++ ad.drop (q + 1))) := by rw [hG, List.set_set]
        conv => whnf
        refine ⟨hirq, _, htkq, ?_⟩
        conv => whnf
        refine ⟨_, hO.o5, ?_⟩
        conv => whnf
        refine ⟨_, hO.o4, ⟨rfl, keys_cB rfl _⟩, _, hdel, ?_⟩
        conv => whnf
        exact ⟨⟨(q + 1, _), hOn, hGn⟩, wk_of ⟨avle_refl _, avle_refl _, avle_refl _, avle_refl _, avle_refl _, avle_refl _, avle_refl _, avle_refl _, avle_refl _, avle_refl _, avle_refl _, avle_int hwrapq, trivial⟩ trivial rfl ⟨trivial, trivial, trivial, trivial, trivial, trivial, trivial, trivial, trivial, trivial, trivial, trivial, trivial⟩, Nat.sub_lt_sub_left hq2 (Nat.lt_succ_self q)⟩
      · rename_i hq
        have hq : ad.length ≤ q := by simpa using hq
        rw [List.drop_of_length_le hq, List.append_nil, ho.same] at hG
        conv => whnf
        exact ⟨⟨j + 1, hj⟩, wk_of ⟨avle_refl _, avle_refl _, avle_refl _, avle_refl _, avle_refl _, avle_refl _, avle_refl _, avle_refl _, avle_int hwrap, trivial⟩ trivial hG ⟨trivial, trivial, trivial, trivial, trivial, trivial, trivial, trivial, trivial, trivial⟩, Nat.sub_lt_sub_left hlt (Nat.lt_succ_self j)⟩
end Go.Proofs.YtjchgncgkhofhaaGreat.AL
