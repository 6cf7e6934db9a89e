/- The program's functions in abstract words: edictref18.cleaned. -/
import Derived.Test.YtjchgncgkhofhaaGreatM15
import Derived.Test.YtjchgncgkhofhaaGreatM17
import Derived.Test.YtjchgncgkhofhaaGreatM12
import Derived.Test.YtjchgncgkhofhaaGreatM16
set_option linter.unusedVariables false
namespace Go.Proofs.YtjchgncgkhofhaaGreat.AL
open Go
attribute [local irreducible] PlainFn CallOk

def cleanP (c : Cl) : Cl := ⟨c.head, c.body.filter fun l => decide (verdP l ≤ 0)⟩
theorem filter_snoc {α : Type} (f : α → Bool) (l : List α) (i : Nat) (h : i < l.length) : (l.take (i + 1)).filter f = if f l[i] = true then (l.take i).filter f ++ [l[i]] else (l.take i).filter f := by
  rw [List.take_succ_eq_append_getElem h, List.filter_append]
  by_cases hf : f l[i] = true
  · rw [if_pos hf]; simp [hf]
  · rw [if_neg hf]; simp [hf]
set_option maxHeartbeats 2000000 in
theorem ok24 (c : Cl) (hs : SzC c) : POk 24 [aCl c] (aCl (cleanP c)) := by
  have h11 := ok11 c hs
  obtain ⟨h1, h2, h3⟩ := hs
  refine fn_ok mixed (En_ok _ _ _ _) (pl := fun _ => [0, 2, 3, 4, 5, 6, 7, 1, 8, 9, 10].map Pl.one) (fn := Go.Proofs.Tryz.f24) (c := _) (by kernel_rfl) rfl (by decide) (by kernel_rfl) (E := E0) ?_
  conv => whnf
  refine use_pure h11 (nr1 (nr_aCl _)) ⟨rfl, ?_⟩
  conv => whnf
  refine ⟨{ i : Nat // i ≤ c.body.length }, fun i => St [(1, .pp (.loc 1) 0), (2, .pp (.loc 2) 0), (3, .pp (.loc 3) 0), (4, .sc (.int .i64 i.1))] [(1, .cells 0 (cC c)), (2, .cells 0 [.undef, .undef, .undef, .undef]), (3, .cells 0 [.sc (.string c.head.pred), vT c.head.args, .sc (.int .i64 c.head.off), vLo ((c.body.take i.1).filter fun l => decide (verdP l ≤ 0))])] [], fun i => c.body.length - i.1, ⟨0, Nat.zero_le _⟩, ?_, ?_⟩
  · exact wk_of ⟨avle_refl _, avle_refl _, avle_refl _, avle_refl _, trivial⟩ ⟨oble_refl _, oble_cells ⟨avle_undef _, avle_undef _, avle_undef _, avle_undef _, trivial⟩, oble_cells ⟨avle_refl _, avle_refl _, avle_refl _, avle_nil _ _, trivial⟩, trivial⟩ rfl ⟨trivial, trivial, trivial, trivial, trivial⟩
  rintro ⟨i, hi⟩
  conv => whnf
  split
  · rename_i hlt
    have hlt : i < c.body.length := by simpa using hlt
    have hwrap : IntKind.i64.wrap ((i : Int) + 1) = ((i + 1 : Nat) : Int) := (wrap_small _ (by omega) (by omega)).trans (by omega)
    have htk := take_cells (g := cL) (n := 14) (fun _ => rfl) c.body i hlt
    have hir : (0 : Int) ≤ (i : Int) ∧ (i : Int) < c.body.length := ⟨Int.natCast_nonneg _, Int.ofNat_lt.2 hlt⟩
    have hfl := filter_snoc (fun l => decide (verdP l ≤ 0)) c.body i hlt
    have hln : ((c.body.take i).filter fun l => decide (verdP l ≤ 0)).length ≤ i := Nat.le_trans (List.length_filter_le _ _) (by simp; omega)
    have h17 := ok17 c.body[i]
    generalize c.body[i] = l at htk hfl h17
    generalize ((c.body.take i).filter fun l => decide (verdP l ≤ 0)) = acc at hfl hln
    have hslot : vLo (acc ++ [l]) = .vec true 14 (acc.length + 1) (acc.flatMap cL ++ cL l) := by simp [vLo]
    conv => whnf
    refine ⟨hir, _, htk, ?_⟩
    conv => whnf
    refine use_pure h17 (nr1 (nr_aL _)) ⟨rfl, ?_⟩
    conv => whnf
    split
    · rename_i e
      rw [if_pos e] at hfl
      rw [← hfl] at hslot
      conv => whnf
      refine And.intro (by kernel_rfl) ?_
      conv => whnf
      refine ⟨hir, _, htk, ?_⟩
      conv => whnf
      refine ⟨⟨by show acc.length + 1 ≤ _; omega, by show (acc.length + 1) * 152 ≤ _; omega, rfl⟩, ?_⟩
      conv => whnf
      exact ⟨⟨i + 1, hlt⟩, wk_of ⟨avle_refl _, avle_refl _, avle_refl _, avle_int hwrap, trivial⟩ ⟨oble_refl _, oble_refl _, oble_cells ⟨avle_refl _, avle_refl _, avle_refl _, avle_eq hslot, trivial⟩, trivial⟩ rfl ⟨trivial, trivial, trivial, trivial, trivial⟩, Nat.sub_lt_sub_left hlt (Nat.lt_succ_self i)⟩
    · rename_i e
      rw [if_neg (by rw [e]; decide)] at hfl
      conv => whnf
      exact ⟨⟨i + 1, hlt⟩, wk_of ⟨avle_refl _, avle_refl _, avle_refl _, avle_int hwrap, trivial⟩ ⟨oble_refl _, oble_refl _, oble_cells ⟨avle_refl _, avle_refl _, avle_refl _, avle_eq (congrArg vLo hfl), trivial⟩, trivial⟩ rfl ⟨trivial, trivial, trivial, trivial, trivial⟩, Nat.sub_lt_sub_left hlt (Nat.lt_succ_self i)⟩
  · rename_i hlt
    have hlt : c.body.length ≤ i := by simpa using hlt
    have htm : c.body.take i = c.body := List.take_of_length_le hlt
    have hres : AV.agg [.sc (.string c.head.pred), vT c.head.args, .sc (.int .i64 c.head.off), .vec false 14 ((c.body.take i).filter fun l => decide (verdP l ≤ 0)).length (((c.body.take i).filter fun l => decide (verdP l ≤ 0)).flatMap cL)] = aCl (cleanP c) := by rw [htm]; rfl
    conv => whnf
    exact ⟨(congrArg nr hres).trans (nr_aCl _), hres⟩
end Go.Proofs.YtjchgncgkhofhaaGreat.AL
/- The program's functions in abstract words: slices.DeleteFunc over a shared slice. -/
set_option linter.unusedVariables false
namespace Go.Proofs.YtjchgncgkhofhaaGreat.AL
open Go
attribute [local irreducible] PlainFn CallOk

theorem lay_len (cs : List AV) (o : Nat) (x : List AV) (h : o + x.length ≤ cs.length) : (lay cs o x).length = cs.length := by
  unfold lay
  simp only [List.length_append, List.length_take, List.length_drop]
  omega
theorem idx_none {α : Type} (f : α → Bool) : ∀ (l : List α) (i : Nat), idxP f l i = -1 → l.filter (fun x => !f x) = l
  | [], _, _ => rfl
  | x :: l, i, h => by
    simp only [idxP] at h
    split at h
    · omega
    · rename_i e
      have e : f x = false := by simpa using e
      rw [List.filter_cons, if_pos (by simp [e]), idx_none f l (i + 1) h]
theorem idx_some {α : Type} (f : α → Bool) : ∀ (l : List α) (i : Nat), idxP f l i ≠ -1 → ∃ k, idxP f l i = ((i + k : Nat) : Int) ∧ k < l.length ∧ (l.take (k + 1)).filter (fun x => !f x) = l.take k
  | [], i, h => absurd rfl h
  | x :: l, i, h => by
    simp only [idxP] at h ⊢
    split
    · rename_i e
      exact ⟨0, rfl, by simp, by simp [e]⟩
    · rename_i e
      rw [if_neg e] at h
      have e : f x = false := by simpa using e
      obtain ⟨k, h1, h2, h3⟩ := idx_some f l (i + 1) h
      refine ⟨k + 1, by rw [h1]; congr 1; omega, by simpa using h2, ?_⟩
      rw [List.take_succ_cons, List.filter_cons, if_pos (by simp [e]), h3, List.take_succ_cons]
/-- The store of one more kept literal: what lies between grows nor shrinks. -/
theorem lay_keep (a mid : List AV) (x t : List AV) (k : Nat) (hk : a.length = k) (hm : x.length ≤ mid.length) : lay (a ++ (mid ++ t)) k x = (a ++ x) ++ (mid.drop x.length ++ t) := by
  rw [lay_mid _ _ _ _ hk, List.drop_append_of_le_length hm]
theorem set_same {α : Type} {gs : List α} {id : Nat} {x : α} (h : gs[id]? = some x) : gs.set id x = gs := by
  have hl := (List.getElem?_eq_some_iff.1 h).1
  rw [List.getElem?_eq_getElem hl] at h
  injection h with h
  rw [← h, List.set_getElem_self]
theorem get_put {α : Type} {gs : List α} {id : Nat} {x : α} (h : id < gs.length) : (gs.set id x)[id]? = some x := by simp [h]
theorem take_mid (a mid t x : List AV) (k n : Nat) (hk : a.length + mid.length = k) (hx : t.take n = x) : ((a ++ (mid ++ t)).drop k).take n = x := by
  rw [← List.append_assoc, List.drop_append, List.drop_of_length_le (by simp; omega), List.nil_append]
  rw [show k - (a ++ mid).length = 0 from by simp; omega]
  exact hx
def kp (f : Lt → Bool) (ls : List Lt) (j : Nat) : List Lt := (ls.take j).filter fun x => !f x
set_option maxHeartbeats 2000000 in
theorem ok26 (ls : List Lt) (hls : ls.length ≤ 9223372036854775807) (g : Nat) (f : Lt → Bool) (hg : ∀ t, POk g [aL t] (.sc (.bool (f t)))) (gs : List AObj) (id cap : Nat) (hcap : ls.length ≤ cap) (hgs : gs[id]? = some (.cells 0 (ls.flatMap cL))) :
    PlainFn prg 26 ∧ CallOk prg 26 [.ap (.obj id) cap 0 ls.length, .fn (.func g) [] []] gs fun v gs' => v = .ap (.obj id) cap 0 (ls.filter fun x => !f x).length ∧ ∃ rest, gs' = gs.set id (.cells 0 ((ls.filter fun x => !f x).flatMap cL ++ rest)) := by
  have h42 := ok42a ls hls g f hg gs id cap hgs
  have hn : idxP f ls 0 = -1 → (ls.filter fun x => !f x) = ls := idx_none f ls 0
  have hs : idxP f ls 0 ≠ -1 → ∃ k, idxP f ls 0 = ((0 + k : Nat) : Int) ∧ k < ls.length ∧ kp f ls (k + 1) = ls.take k := idx_some f ls 0
  have hidl : id < gs.length := (List.getElem?_eq_some_iff.1 hgs).1
  generalize idxP f ls 0 = ix at h42 hn hs
  refine fn_ok mixed (En_ok _ _ _ _) (pl := fun _ => []) (fn := Go.Proofs.Tryz.f26) (c := _) (by kernel_rfl) rfl (by decide) (by kernel_rfl) (E := E0) ?_
  conv => whnf
  refine use_c h42 ?_
  rintro v gs' ⟨rfl, rfl⟩
  refine ⟨rfl, ?_⟩
  conv => whnf
  split
  · rename_i e
    have e : ix = -1 := by simpa using e
    conv => whnf
    refine ⟨?_, [], ?_⟩
    · rw [hn e]
    · rw [hn e, List.append_nil]
      exact (set_same hgs).symm
  rename_i e
  have e : ix ≠ -1 := by simpa using e
  obtain ⟨k, rfl, hk, hkf⟩ := hs e
  conv => whnf
  have hwk : IntKind.i64.wrap (((0 + k : Nat) : Int) + 1) = ((k + 1 : Nat) : Int) := (wrap_small _ (by omega) (by omega)).trans (by omega)
  refine ⟨{ p : Nat × List AV // p.1 ≤ ls.length ∧ (kp f ls p.1).length < p.1 ∧ (kp f ls p.1).length * 14 + p.2.length = p.1 * 14 },
    fun p => St [(0, .ap (.obj id) cap 0 ls.length), (1, .fn (.func g) [] []), (5, .sc (.int .i64 (kp f ls p.1.1).length)), (6, .sc (.int .i64 p.1.1))] [] (gs'.set id (.cells 0 ((kp f ls p.1.1).flatMap cL ++ (p.1.2 ++ (ls.drop p.1.1).flatMap cL)))),
    fun p => ls.length - p.1.1, ⟨(k + 1, cL ls[k]), hk, ?_, ?_⟩, ?_, ?_⟩
  · show (kp f ls (k + 1)).length < k + 1
    rw [hkf]; simp; omega
  · show (kp f ls (k + 1)).length * 14 + (cL ls[k]).length = (k + 1) * 14
    rw [hkf, List.length_take]
    show min k ls.length * 14 + 14 = _
    omega
  · refine wk_of ⟨avle_refl _, avle_refl _, avle_int ?_, avle_int hwk, trivial⟩ trivial ?_ ⟨trivial, trivial, trivial, trivial, trivial⟩
    · show ((0 + k : Nat) : Int) = (((kp f ls (k + 1)).length : Nat) : Int)
      rw [hkf, List.length_take, Nat.min_eq_left (by omega), Nat.zero_add]
    · show gs' = gs'.set id (.cells 0 ((kp f ls (k + 1)).flatMap cL ++ (cL ls[k] ++ (ls.drop (k + 1)).flatMap cL)))
      rw [hkf]
      have : (ls.take k).flatMap cL ++ (cL ls[k] ++ (ls.drop (k + 1)).flatMap cL) = ls.flatMap cL := by
        rw [← List.flatMap_cons, ← List.drop_eq_getElem_cons hk, ← List.flatMap_append, List.take_append_drop]
      rw [this]
      exact (set_same hgs).symm
  rintro ⟨⟨j, mid⟩, hj, hij, hlm⟩
  simp only at hj hij hlm
  conv => whnf
  split
  · rename_i hlt
    have hlt : j < ls.length := by simpa using hlt
    have hwrap : IntKind.i64.wrap ((j : Int) + 1) = ((j + 1 : Nat) : Int) := (wrap_small _ (by omega) (by omega)).trans (by omega)
    have hir : (0 : Int) ≤ (j : Int) ∧ (j : Int) < ls.length := ⟨Int.natCast_nonneg _, Int.ofNat_lt.2 hlt⟩
    have hfs : kp f ls (j + 1) = if (!f ls[j]) = true then kp f ls j ++ [ls[j]] else kp f ls j := filter_snoc (fun x => !f x) ls j hlt
    have hdr : ls.drop j = ls[j] :: ls.drop (j + 1) := List.drop_eq_getElem_cons hlt
    have hg' := hg ls[j]
    generalize ls[j] = m at hg' hfs hdr
    have hal : ((kp f ls j).flatMap cL).length = (kp f ls j).length * 14 := cellsL_len (kp f ls j)
    have hXl : ((kp f ls j).flatMap cL ++ (mid ++ (ls.drop j).flatMap cL)).length = ls.length * 14 := by
      simp only [List.length_append, hal, cellsL_len, List.length_drop]; omega
    have hle : 0 + j * 14 + 14 ≤ ((kp f ls j).flatMap cL ++ (mid ++ (ls.drop j).flatMap cL)).length := by rw [hXl]; omega
    have hle2 : 0 + (kp f ls j).length * 14 + 14 ≤ ((kp f ls j).flatMap cL ++ (mid ++ (ls.drop j).flatMap cL)).length := by rw [hXl]; omega
    have htk2 : (((kp f ls j).flatMap cL ++ (mid ++ (ls.drop j).flatMap cL)).drop (0 + j * 14)).take 14 = cL m := by
      refine take_mid _ _ _ _ _ _ (by rw [hal]; omega) ?_
      rw [hdr, List.flatMap_cons]; rfl
    conv => whnf
    refine ⟨hir, ?_⟩
    conv => whnf
    refine ⟨_, get_put hidl, ldc_of rfl (by decide) rfl hle htk2 ?_⟩
    conv => whnf
    refine use_pure hg' (nr1 (nr_aL _)) ⟨rfl, ?_⟩
    conv => whnf
    split
    · rename_i e
      have e : (!f m) = true := e
      rw [if_pos e] at hfs
      have hwi : IntKind.i64.wrap (((kp f ls j).length : Int) + 1) = (((kp f ls j ++ [m]).length : Nat) : Int) := (wrap_small _ (by omega) (by omega)).trans (by simp)
      have hir2 : (0 : Int) ≤ ((kp f ls j).length : Int) ∧ ((kp f ls j).length : Int) < ls.length := ⟨Int.natCast_nonneg _, by omega⟩
      have hgs2 : (gs'.set id (.cells 0 ((kp f ls j).flatMap cL ++ (mid ++ (ls.drop j).flatMap cL)))).set id (.cells 0 (lay ((kp f ls j).flatMap cL ++ (mid ++ (ls.drop j).flatMap cL)) (0 + (kp f ls j).length * 14) (cL m))) =
          gs'.set id (.cells 0 ((kp f ls j ++ [m]).flatMap cL ++ ((mid.drop 14 ++ cL m) ++ (ls.drop (j + 1)).flatMap cL))) := by
        rw [List.set_set, lay_keep _ _ _ _ _ (by rw [hal]; omega) (by show 14 ≤ mid.length; omega), hdr]
        simp only [List.flatMap_cons, List.flatMap_append, List.flatMap_nil, List.append_nil, List.append_assoc]
        rfl
      conv => whnf
      refine ⟨hir2, ?_⟩
      conv => whnf
      refine ⟨_, get_put hidl, hle2, ?_⟩
      conv => whnf
      refine ⟨⟨(j + 1, mid.drop 14 ++ cL m), hlt, ?_, ?_⟩, wk_of ⟨avle_refl _, avle_refl _, avle_int ?_, avle_int hwrap, trivial⟩ trivial ?_ ⟨trivial, trivial, trivial, trivial, trivial⟩, Nat.sub_lt_sub_left hlt (Nat.lt_succ_self j)⟩
      · show (kp f ls (j + 1)).length < j + 1
        rw [hfs, List.length_append]; show _ + 1 < _; omega
      · show (kp f ls (j + 1)).length * 14 + (mid.drop 14 ++ cL m).length = (j + 1) * 14
        rw [hfs, List.length_append, List.length_append, List.length_drop]
        show (_ + 1) * 14 + (_ + 14) = _
        omega
      · show _ = (((kp f ls (j + 1)).length : Nat) : Int)
        rw [hfs]; exact hwi
      · show _ = gs'.set id (.cells 0 ((kp f ls (j + 1)).flatMap cL ++ ((mid.drop 14 ++ cL m) ++ (ls.drop (j + 1)).flatMap cL)))
        rw [hfs]; exact hgs2
    · rename_i e
      have e : (!f m) = false := e
      rw [if_neg (by rw [e]; decide)] at hfs
      conv => whnf
      refine ⟨⟨(j + 1, mid ++ cL m), hlt, ?_, ?_⟩, wk_of ⟨avle_refl _, avle_refl _, avle_int ?_, avle_int hwrap, trivial⟩ trivial ?_ ⟨trivial, trivial, trivial, trivial, trivial⟩, Nat.sub_lt_sub_left hlt (Nat.lt_succ_self j)⟩
      · show (kp f ls (j + 1)).length < j + 1
        rw [hfs]; omega
      · show (kp f ls (j + 1)).length * 14 + (mid ++ cL m).length = (j + 1) * 14
        rw [hfs, List.length_append]
        show _ + (_ + 14) = _
        omega
      · show (((kp f ls j).length : Nat) : Int) = (((kp f ls (j + 1)).length : Nat) : Int)
        rw [hfs]
      · show gs'.set id (.cells 0 ((kp f ls j).flatMap cL ++ (mid ++ (ls.drop j).flatMap cL))) = gs'.set id (.cells 0 ((kp f ls (j + 1)).flatMap cL ++ ((mid ++ cL m) ++ (ls.drop (j + 1)).flatMap cL)))
        rw [hfs, hdr, List.flatMap_cons, List.append_assoc mid]
  · rename_i hlt
    have hlt : ls.length ≤ j := by simpa using hlt
    have hje : j = ls.length := by omega
    subst hje
    have hkp : kp f ls ls.length = ls.filter fun x => !f x := by unfold kp; rw [List.take_length]
    have hal : ((kp f ls ls.length).flatMap cL).length = (kp f ls ls.length).length * 14 := cellsL_len (kp f ls ls.length)
    have hnc : ¬ cap = (kp f ls ls.length).length := by omega
    have hX : ((kp f ls ls.length).flatMap cL ++ (mid ++ (ls.drop ls.length).flatMap cL)) = (kp f ls ls.length).flatMap cL ++ mid := by rw [List.drop_length]; simp
    have hb1 : (0 : Int) ≤ ((kp f ls ls.length).length : Int) ∧ ((kp f ls ls.length).length : Int) ≤ (ls.length : Int) ∧ (ls.length : Int) ≤ (cap : Int) := ⟨Int.natCast_nonneg _, by omega, by omega⟩
    have hb2 : (0 : Int) ≤ 0 ∧ (0 : Int) ≤ ((kp f ls ls.length).length : Int) ∧ ((kp f ls ls.length).length : Int) ≤ (cap : Int) := ⟨Int.le_refl _, Int.natCast_nonneg _, by omega⟩
    conv => whnf
    refine ⟨hb1, ?_⟩
    conv => whnf
    refine ⟨_, get_put hidl, ?_, ?_⟩
    · rw [hX]
      show (if cap = (kp f ls ls.length).length then 0 else 0 + (kp f ls ls.length).length * 14) + (ls.length - (kp f ls ls.length).length) * 14 ≤ _
      rw [if_neg hnc, List.length_append, hal]; omega
    conv => whnf
    refine ⟨hb2, ?_⟩
    conv => whnf
    refine ⟨?_, ?_⟩
    · show AV.ap (.obj id) cap (if cap = 0 then 0 else 0 + 0 * 14) (kp f ls ls.length).length = _
      have h0 : (if cap = 0 then 0 else 0 + 0 * 14) = 0 := by split <;> rfl
      rw [h0, hkp]
    · show ∃ rest, (gs'.set id (.cells 0 ((kp f ls ls.length).flatMap cL ++ (mid ++ (ls.drop ls.length).flatMap cL)))).set id (.cells 0 (lay ((kp f ls ls.length).flatMap cL ++ (mid ++ (ls.drop ls.length).flatMap cL)) (if cap = (kp f ls ls.length).length then 0 else 0 + (kp f ls ls.length).length * 14) _)) = _
      rw [hX, List.set_set, if_neg hnc, lay_mid _ _ _ _ (by rw [hal, Nat.zero_add]), hkp, List.append_assoc]
      exact ⟨_, rfl⟩
/-- The same, what is left told as a slice's value. -/
theorem ok26f (ls : List Lt) (hls : ls.length ≤ 9223372036854775807) (g : Nat) (f : Lt → Bool) (hg : ∀ t, POk g [aL t] (.sc (.bool (f t)))) (gs : List AObj) (id cap : Nat) (hcap : ls.length ≤ cap) (hgs : gs[id]? = some (.cells 0 (ls.flatMap cL))) :
    PlainFn prg 26 ∧ CallOk prg 26 [.ap (.obj id) cap 0 ls.length, .fn (.func g) [] []] gs fun v gs' => v = vL (ls.filter fun x => !f x) ∧ gs' = gs.set id .dead := by
  obtain ⟨h1, h2⟩ := ok26 ls hls g f hg gs id cap hcap hgs
  have hidl : id < gs.length := (List.getElem?_eq_some_iff.1 hgs).1
  refine ⟨h1, h2.freeze ?_⟩
  rintro v gs' ⟨rfl, rest, rfl⟩
  refine ⟨id, 14, _, get_put hidl, ?_, List.set_set ..⟩
  exact frz_list id cap (ls.filter fun x => !f x) rest
end Go.Proofs.YtjchgncgkhofhaaGreat.AL
/- The program's functions in abstract words: edictref18.Trim. -/
set_option linter.unusedVariables false
namespace Go.Proofs.YtjchgncgkhofhaaGreat.AL
open Go
attribute [local irreducible] PlainFn CallOk

/-- Those of a list that, with their numbers, are to be kept. -/
def keepG (f : Nat → Cl → Bool) : List Cl → Nat → List Cl
  | [], _ => []
  | x :: l, i => if f i x = true then x :: keepG f l (i + 1) else keepG f l (i + 1)
theorem keep_snoc (f : Nat → Cl → Bool) (x : Cl) : ∀ (a : List Cl) (i : Nat), keepG f (a ++ [x]) i = if f (i + a.length) x = true then keepG f a i ++ [x] else keepG f a i
  | [], i => by simp [keepG]
  | y :: a, i => by
    simp only [List.cons_append, keepG, keep_snoc f x a (i + 1), List.length_cons]
    rw [show i + 1 + a.length = i + (a.length + 1) from by omega]
    split <;> split <;> rfl
theorem keep_step (f : Nat → Cl → Bool) (l : List Cl) (i : Nat) (h : i < l.length) : keepG f (l.take (i + 1)) 0 = if f i l[i] = true then keepG f (l.take i) 0 ++ [l[i]] else keepG f (l.take i) 0 := by
  rw [List.take_succ_eq_append_getElem h, keep_snoc]
  rw [show 0 + (l.take i).length = i from by simp; omega]
theorem keep_len (f : Nat → Cl → Bool) : ∀ (a : List Cl) (i : Nat), (keepG f a i).length ≤ a.length
  | [], _ => Nat.le_refl _
  | x :: a, i => by
    simp only [keepG]
    have := keep_len f a (i + 1)
    split <;> simp <;> omega
theorem keep_mem (f : Nat → Cl → Bool) : ∀ (a : List Cl) (i : Nat), ∀ x ∈ keepG f a i, x ∈ a
  | [], _, x, h => h
  | y :: a, i, x, h => by
    simp only [keepG] at h
    split at h
    · rcases List.mem_cons.1 h with rfl | h
      · simp
      · exact List.mem_cons_of_mem _ (keep_mem f a (i + 1) x h)
    · exact List.mem_cons_of_mem _ (keep_mem f a (i + 1) x h)
/-- The clauses, cleaned, that may fire. -/
def liveR (p : List Cl) : List Cl := (p.map cleanP).filter fun c => decide (idxP (faultR c.body) c.body 0 < 0)
def keptR (l : List Cl) (i : Nat) (c : Cl) : Bool := decide (twP l i c < 0) && decide (cvP l i c < 0)
def trimR (p : List Cl) : List Cl := if wellP p = 0 then keepG (keptR (liveR p)) (liveR p) 0 else p
set_option maxHeartbeats 2000000 in
theorem ok8n (p : List Cl) (hp : p.length * 72 ≤ 140737488355328) (hs : ∀ c ∈ p, SzC c) (hw : wellP p ≠ 0) : POk 8 [aP p] (aP p) := by
  have h12 := ok12 p
  refine fn_ok mixed (En_ok _ _ _ _) (pl := fun r => if r = 6 then [0, 2, 3, 4, 5, 6, 7, 8, 1, 9, 10, 11].map Pl.one else [0, 2, 3, 4, 5, 6, 7, 1, 8, 9, 10].map Pl.one) (fn := Go.Proofs.Tryz.f8) (c := _) (by kernel_rfl) rfl (by decide) (by kernel_rfl) (E := E0) ?_
  conv => whnf
  refine use_pure h12 (nr1 (nr_aP p)) ⟨rfl, ?_⟩
  conv => whnf
  split
  case h_2 =>
    rename_i e
    have e : (!decide (wellP p = 0)) = false := e
    simp [hw] at e
  conv => whnf
  refine ⟨{ i : Nat // i ≤ p.length }, fun i => St [(1, .pp (.loc 1) 0), (2, .pp (.loc 2) 0), (3, .pp (.loc 3) 0), (4, .sc (.int .i64 i.1))] [(1, .cells 0 [vC p]), (2, .cells 0 [.undef]), (3, .cells 0 [vCo (p.take i.1)])] [], fun i => p.length - i.1, ⟨0, Nat.zero_le _⟩, ?_, ?_⟩
  · exact wk_of ⟨avle_refl _, avle_refl _, avle_refl _, avle_refl _, trivial⟩ ⟨oble_refl _, oble_cells ⟨avle_undef _, trivial⟩, oble_cells ⟨avle_nil _ _, trivial⟩, trivial⟩ rfl ⟨trivial, trivial, trivial, trivial, trivial⟩
  rintro ⟨i, hi⟩
  conv => whnf
  split
  · rename_i hlt
    have hlt : i < p.length := by simpa using hlt
    have hwrap : IntKind.i64.wrap ((i : Int) + 1) = ((i + 1 : Nat) : Int) := (wrap_small _ (by omega) (by omega)).trans (by omega)
    have htk := take_cells (g := cC) (n := 4) (fun _ => rfl) p i hlt
    have hir : (0 : Int) ≤ (i : Int) ∧ (i : Int) < p.length := ⟨Int.natCast_nonneg _, Int.ofNat_lt.2 hlt⟩
    have h11 := ok11 p[i] (hs p[i] (List.getElem_mem hlt))
    have htm : p.take (i + 1) = p.take i ++ [p[i]] := List.take_succ_eq_append_getElem hlt
    have hln : (p.take i).length = i := by simp; omega
    generalize p[i] = c at htk h11 htm
    have hslot := vCo_app (p.take i) c
    rw [← htm] at hslot
    conv => whnf
    refine And.intro (by kernel_rfl) ?_
    conv => whnf
    refine ⟨hir, _, htk, ?_⟩
    conv => whnf
    refine use_ex h11 (nr1 (nr_aCl c)) ⟨rfl, ?_⟩
    conv => whnf
    refine ⟨⟨by show (p.take i).length + 1 ≤ _; omega, by show ((p.take i).length + 1) * 72 ≤ _; omega, rfl⟩, ?_⟩
    conv => whnf
    exact ⟨⟨i + 1, hlt⟩, wk_of ⟨avle_refl _, avle_refl _, avle_refl _, avle_int hwrap, trivial⟩ ⟨oble_refl _, oble_refl _, oble_cells ⟨avle_eq hslot, trivial⟩, trivial⟩ rfl ⟨trivial, trivial, trivial, trivial, trivial⟩, Nat.sub_lt_sub_left hlt (Nat.lt_succ_self i)⟩
  · rename_i hlt
    have hlt : p.length ≤ i := by simpa using hlt
    have htm : p.take i = p := List.take_of_length_le hlt
    have hres : AV.agg [.vec false 4 (p.take i).length ((p.take i).flatMap cC)] = aP p := by rw [htm]; rfl
    conv => whnf
    exact ⟨(congrArg nr hres).trans (nr_aP p), hres⟩
end Go.Proofs.YtjchgncgkhofhaaGreat.AL
/- The program's functions in abstract words: edictref18.Trim of what is well formed. -/
set_option linter.unusedVariables false
namespace Go.Proofs.YtjchgncgkhofhaaGreat.AL
open Go
attribute [local irreducible] PlainFn CallOk

theorem first_filter {α : Type} (f : α → Int) (g : α → Bool) : ∀ l : List α, firstP f l = 0 → firstP f (l.filter g) = 0
  | [], _ => rfl
  | x :: l, h => by
    have h1 := first_zero f (x :: l) h x (List.mem_cons_self ..)
    have h2 : firstP f l = 0 := by simpa [firstP, h1] using h
    rw [List.filter_cons]
    split
    · simp [firstP, h1, first_filter f g l h2]
    · exact first_filter f g l h2
theorem clause_filter {c : Cl} (g : Lt → Bool) (h : clauseP c = 0) : clauseP ⟨c.head, c.body.filter g⟩ = 0 := by
  obtain ⟨h1, h2, h3⟩ := clause_zero h
  have h4 : firstP litP c.body = 0 := by simpa [clauseP, h1, show ¬ 16 < c.body.length from by omega] using h
  have h5 : (c.body.filter g).length ≤ c.body.length := List.length_filter_le _ _
  simp only [clauseP, h1]
  rw [if_neg (by simp), if_neg (by omega)]
  exact first_filter _ _ _ h4
theorem Gd_filter {c : Cl} (g : Lt → Bool) (h : Gd c) : Gd ⟨c.head, c.body.filter g⟩ :=
  ⟨clause_filter g h.1, h.2.1, fun l hl => h.2.2 l ((List.mem_filter.1 hl).1)⟩
theorem SzC_filter {c : Cl} (g : Lt → Bool) (h : SzC c) : SzC ⟨c.head, c.body.filter g⟩ :=
  ⟨h.1, Nat.le_trans (Nat.mul_le_mul_right _ (List.length_filter_le _ _)) h.2.1, fun l hl => h.2.2 l ((List.mem_filter.1 hl).1)⟩
theorem live_mem {p : List Cl} (hw : ∀ c ∈ p, Gd c) : ∀ c ∈ liveR p, Gd c := by
  intro c hc
  obtain ⟨x, hx, rfl⟩ := List.mem_map.1 ((List.mem_filter.1 hc).1)
  exact Gd_filter _ (hw x hx)
theorem live_mem' {p : List Cl} (hw : ∀ c ∈ p, SzC c) : ∀ c ∈ liveR p, SzC c := by
  intro c hc
  obtain ⟨x, hx, rfl⟩ := List.mem_map.1 ((List.mem_filter.1 hc).1)
  exact SzC_filter _ (hw x hx)
theorem live_len (p : List Cl) : (liveR p).length ≤ p.length := by
  unfold liveR
  exact Nat.le_trans (List.length_filter_le _ _) (by simp)
theorem live_step (p : List Cl) (i : Nat) (h : i < p.length) : liveR (p.take (i + 1)) = if idxP (faultR (cleanP p[i]).body) (cleanP p[i]).body 0 < 0 then liveR (p.take i) ++ [cleanP p[i]] else liveR (p.take i) := by
  unfold liveR
  rw [List.take_succ_eq_append_getElem h, List.map_append, List.filter_append]
  split
  · rename_i e; simp [e]
  · rename_i e; simp [e]
theorem lit_args {l : Lt} (h : litP l = 0) : l.atom.args.length ≤ 8 := by
  by_cases k : l.kind = 3
  · have := lit_kind3 h k
    rw [this.2.1]; simp
  · have := (lit_kind12 h k).2.2
    exact (atom_zero this).2.1
set_option maxHeartbeats 4000000 in
theorem ok8w (p : List Cl) (hp : p.length ≤ 1000000) (hs : ∀ c ∈ p, SzC c) (hg : ∀ c ∈ p, Gd c) (hw : wellP p = 0) : POk 8 [aP p] (aP (trimR p)) := by
  have h12 := ok12 p
  refine fn_ok mixed (En_ok _ _ _ _) (pl := fun r => if r = 6 then [0, 2, 3, 4, 5, 6, 7, 8, 1, 9, 10, 11].map Pl.one else [0, 2, 3, 4, 5, 6, 7, 1, 8, 9, 10].map Pl.one) (fn := Go.Proofs.Tryz.f8) (c := _) (by kernel_rfl) rfl (by decide) (by kernel_rfl) (E := E0) ?_
  conv => whnf
  refine use_pure h12 (nr1 (nr_aP p)) ⟨rfl, ?_⟩
  conv => whnf
  split
  · rename_i e
    have e : (!decide (wellP p = 0)) = true := e
    simp [hw] at e
  conv => whnf
  refine ⟨{ i : Nat // i ≤ p.length }, fun i => St [(1, .pp (.loc 1) 0), (2, .pp (.loc 2) 0), (3, .pp (.loc 3) 0), (5, vCo (liveR (p.take i.1))), (6, .sc (.int .i64 i.1))] [(1, .cells 0 [vC p]), (2, .cells 0 [.undef]), (3, .cells 0 [vCo []])] [], fun i => p.length - i.1, ⟨0, Nat.zero_le _⟩, ?_, ?_⟩
  · exact wk_of ⟨avle_refl _, avle_refl _, avle_refl _, avle_nil _ _, avle_refl _, trivial⟩ ⟨oble_refl _, oble_cells ⟨avle_undef _, trivial⟩, oble_cells ⟨avle_nil _ _, trivial⟩, trivial⟩ rfl ⟨trivial, trivial, trivial, trivial, trivial, trivial⟩
  rintro ⟨i, hi⟩
  conv => whnf
  split
  · rename_i hlt
    have hlt : i < p.length := by simpa using hlt
    have hwrap : IntKind.i64.wrap ((i : Int) + 1) = ((i + 1 : Nat) : Int) := (wrap_small _ (by omega) (by omega)).trans (by omega)
    have htk := take_cells (g := cC) (n := 4) (fun _ => rfl) p i hlt
    have hir : (0 : Int) ≤ (i : Int) ∧ (i : Int) < p.length := ⟨Int.natCast_nonneg _, Int.ofNat_lt.2 hlt⟩
    have h24 := ok24 p[i] (hs p[i] (List.getElem_mem hlt))
    have hgd := Gd_filter (fun l => decide (verdP l ≤ 0)) (hg p[i] (List.getElem_mem hlt))
    have hcz := clause_zero hgd.1
    have h15 := ok15 (cleanP p[i]) (Nat.le_trans hcz.2.1 (by decide)) (fun m hm => Nat.le_trans (lit_args (hcz.2.2 m hm)) (by decide))
    have hls := live_step p i hlt
    have hln : (liveR (p.take i)).length ≤ i := Nat.le_trans (live_len _) (by simp; omega)
    generalize p[i] = c at htk h24 h15 hls
    generalize hcx : cleanP c = x at h24 h15 hls
    generalize idxP (faultR x.body) x.body 0 = ix at h15 hls
    have hslot := vCo_app (liveR (p.take i)) x
    conv => whnf
    refine ⟨hir, _, htk, ?_⟩
    conv => whnf
    refine use_pure h24 (nr1 (nr_aCl c)) ⟨rfl, ?_⟩
    conv => whnf
    refine use_pure h15 (nr1 (nr_aCl x)) ⟨rfl, ?_⟩
    conv => whnf
    split
    · rename_i e
      have e : ix < 0 := by simpa using e
      rw [if_pos e] at hls
      rw [← hls] at hslot
      conv => whnf
      refine ⟨⟨by show (liveR (p.take i)).length + 1 ≤ _; omega, by show ((liveR (p.take i)).length + 1) * 72 ≤ _; omega, rfl⟩, ?_⟩
      conv => whnf
      exact ⟨⟨i + 1, hlt⟩, wk_of ⟨avle_refl _, avle_refl _, avle_refl _, avle_eq hslot, avle_int hwrap, trivial⟩ ⟨oble_refl _, oble_refl _, oble_refl _, trivial⟩ rfl ⟨trivial, trivial, trivial, trivial, trivial, trivial⟩, Nat.sub_lt_sub_left hlt (Nat.lt_succ_self i)⟩
    · rename_i e
      have e : ¬ ix < 0 := by simpa using e
      rw [if_neg e] at hls
      conv => whnf
      exact ⟨⟨i + 1, hlt⟩, wk_of ⟨avle_refl _, avle_refl _, avle_refl _, avle_eq (congrArg vCo hls), avle_int hwrap, trivial⟩ ⟨oble_refl _, oble_refl _, oble_refl _, trivial⟩ rfl ⟨trivial, trivial, trivial, trivial, trivial, trivial⟩, Nat.sub_lt_sub_left hlt (Nat.lt_succ_self i)⟩
  rename_i hlt
  have hlt : p.length ≤ i := by simpa using hlt
  have htm : p.take i = p := List.take_of_length_le hlt
  have hlg := live_mem hg
  have hlz := live_mem' hs
  have hll := live_len p
  have htr : trimR p = keepG (keptR (liveR p)) (liveR p) 0 := if_pos hw
  have hlx : avle (vCo (liveR (p.take i))) (vC (liveR p)) := by rw [htm]; exact avle_dm'
  generalize hq : liveR p = q at hlg hlz hll htr hlx
  generalize hkf : keptR q = kf at htr
  conv => whnf
  refine ⟨{ j : Nat // j ≤ q.length }, fun j => St [(1, .pp (.loc 1) 0), (2, .pp (.loc 2) 0), (3, .pp (.loc 3) 0), (5, vC q), (8, .sc (.int .i64 j.1))] [(1, .cells 0 [vC p]), (2, .cells 0 [.undef]), (3, .cells 0 [vCo (keepG kf (q.take j.1) 0)])] [], fun j => q.length - j.1, ⟨0, Nat.zero_le _⟩, ?_, ?_⟩
  · exact wk_of ⟨avle_refl _, avle_refl _, avle_refl _, hlx, avle_refl _, trivial⟩ ⟨oble_refl _, oble_refl _, oble_refl _, trivial⟩ rfl ⟨trivial, trivial, trivial, trivial, trivial, trivial⟩
  rintro ⟨j, hj⟩
  conv => whnf
  split
  · rename_i hlt
    have hlt : j < q.length := by simpa using hlt
    have hwrap : IntKind.i64.wrap ((j : Int) + 1) = ((j + 1 : Nat) : Int) := (wrap_small _ (by omega) (by omega)).trans (by omega)
    have htk := take_cells (g := cC) (n := 4) (fun _ => rfl) q j hlt
    have hir : (0 : Int) ≤ (j : Int) ∧ (j : Int) < q.length := ⟨Int.natCast_nonneg _, Int.ofNat_lt.2 hlt⟩
    have h13 := ok13 q j q[j] hlg (by omega) (List.getElem?_eq_getElem hlt)
    have h14 := ok14 q j q[j] hlg (by omega) (List.getElem?_eq_getElem hlt)
    have h11 := ok11 q[j] (hlz q[j] (List.getElem_mem hlt))
    have hks := keep_step kf q j hlt
    have hln : (keepG kf (q.take j) 0).length ≤ j := Nat.le_trans (keep_len _ _ _) (by simp; omega)
    generalize hc : q[j] = c at htk h13 h14 h11 hks
    have hkc : kf j c = (decide (twP q j c < 0) && decide (cvP q j c < 0)) := by rw [← hkf]; rfl
    generalize twP q j c = tw at h13 hkc
    generalize cvP q j c = cv at h14 hkc
    have hslot := vCo_app (keepG kf (q.take j) 0) c
    have next : kf j c = false → keepG kf (q.take (j + 1)) 0 = keepG kf (q.take j) 0 := fun e => by rw [hks, if_neg (by rw [e]; decide)]
    conv => whnf
    refine use_pure h13 (nr2 (nr_vC q) rfl) ⟨rfl, ?_⟩
    conv => whnf
    split
    case h_2 =>
      rename_i e
      have e : decide (tw < 0) = false := e
      have hn := next (by rw [hkc, e]; rfl)
      conv => whnf
      exact ⟨⟨j + 1, hlt⟩, wk_of ⟨avle_refl _, avle_refl _, avle_refl _, avle_refl _, avle_int hwrap, trivial⟩ ⟨oble_refl _, oble_refl _, oble_cells ⟨avle_eq (congrArg vCo hn), trivial⟩, trivial⟩ rfl ⟨trivial, trivial, trivial, trivial, trivial, trivial⟩, Nat.sub_lt_sub_left hlt (Nat.lt_succ_self j)⟩
    rename_i e
    have e : decide (tw < 0) = true := e
    conv => whnf
    refine use_pure h14 (nr2 (nr_vC q) rfl) ⟨rfl, ?_⟩
    conv => whnf
    split
    case h_2 =>
      rename_i e2
      have e2 : decide (cv < 0) = false := e2
      have hn := next (by rw [hkc, e2]; simp)
      conv => whnf
      exact ⟨⟨j + 1, hlt⟩, wk_of ⟨avle_refl _, avle_refl _, avle_refl _, avle_refl _, avle_int hwrap, trivial⟩ ⟨oble_refl _, oble_refl _, oble_cells ⟨avle_eq (congrArg vCo hn), trivial⟩, trivial⟩ rfl ⟨trivial, trivial, trivial, trivial, trivial, trivial⟩, Nat.sub_lt_sub_left hlt (Nat.lt_succ_self j)⟩
    rename_i e2
    have e2 : decide (cv < 0) = true := e2
    rw [if_pos (by rw [hkc, e, e2]; rfl)] at hks
    rw [← hks] at hslot
    conv => whnf
    refine And.intro (by kernel_rfl) ?_
    conv => whnf
    refine ⟨hir, _, htk, ?_⟩
    conv => whnf
    refine use_ex h11 (nr1 (nr_aCl c)) ⟨rfl, ?_⟩
    conv => whnf
    refine ⟨⟨by show (keepG kf (q.take j) 0).length + 1 ≤ _; omega, by show ((keepG kf (q.take j) 0).length + 1) * 72 ≤ _; omega, rfl⟩, ?_⟩
    conv => whnf
    exact ⟨⟨j + 1, hlt⟩, wk_of ⟨avle_refl _, avle_refl _, avle_refl _, avle_refl _, avle_int hwrap, trivial⟩ ⟨oble_refl _, oble_refl _, oble_cells ⟨avle_eq hslot, trivial⟩, trivial⟩ rfl ⟨trivial, trivial, trivial, trivial, trivial, trivial⟩, Nat.sub_lt_sub_left hlt (Nat.lt_succ_self j)⟩
  · rename_i hlt
    have hlt : q.length ≤ j := by simpa using hlt
    have htm : q.take j = q := List.take_of_length_le hlt
    have hres : AV.agg [.vec false 4 (keepG kf (q.take j) 0).length ((keepG kf (q.take j) 0).flatMap cC)] = aP (trimR p) := by rw [htm, htr]; rfl
    conv => whnf
    exact ⟨(congrArg nr hres).trans (nr_aP _), hres⟩
end Go.Proofs.YtjchgncgkhofhaaGreat.AL
/- The program's functions in abstract words: lint.Trim. -/
set_option linter.unusedVariables false
namespace Go.Proofs.YtjchgncgkhofhaaGreat.AL
open Go
attribute [local irreducible] PlainFn CallOk

def dropL (c : Cl) : Cl := ⟨c.head, c.body.filter fun l => !(cmpdP l).1⟩
/-- The clauses, without idle tests, that may fire. -/
def liveL (p : List Cl) : List Cl := (p.map dropL).filter fun c => !decide (idxP (faultL c.body) c.body 0 ≥ 0)
def keptL (l : List Cl) (i : Nat) (c : Cl) : Bool := decide (((othF i c (twL l i c) (cvL l i c)).length : Int) = 0)
def trimL (p : List Cl) : List Cl := if wellP p = 0 then keepG (keptL (liveL p)) (liveL p) 0 else p
theorem liveL_mem {p : List Cl} (hw : ∀ c ∈ p, Gd c) : ∀ c ∈ liveL p, Gd c := by
  intro c hc
  obtain ⟨x, hx, rfl⟩ := List.mem_map.1 (List.mem_filter.1 hc).1
  exact Gd_filter _ (hw x hx)
theorem liveL_len (p : List Cl) : (liveL p).length ≤ p.length := by
  unfold liveL
  exact Nat.le_trans (List.length_filter_le _ _) (by simp)
theorem liveL_step (p : List Cl) (i : Nat) (h : i < p.length) : liveL (p.take (i + 1)) = if idxP (faultL (dropL p[i]).body) (dropL p[i]).body 0 ≥ 0 then liveL (p.take i) else liveL (p.take i) ++ [dropL p[i]] := by
  unfold liveL
  rw [List.take_succ_eq_append_getElem h, List.map_append, List.filter_append]
  split
  · rename_i e; simp [e]
  · rename_i e; simp [e]
set_option maxHeartbeats 2000000 in
theorem ok9n (p : List Cl) (hp : p.length * 72 ≤ 140737488355328) (hs : ∀ c ∈ p, SzC c) (hw : wellP p ≠ 0) : POk 9 [aP p] (aP p) := by
  have h19 := ok19 p
  refine fn_ok mixed (En_ok _ _ _ _) (pl := fun _ => []) (fn := Go.Proofs.Tryz.f9) (c := _) (by kernel_rfl) rfl (by decide) (by kernel_rfl) (E := E2 [] [25, 26]) ?_
  conv => whnf
  refine use_pure h19 (nr1 (nr_aP p)) ⟨rfl, ?_⟩
  have hb : decide (wellP p = 0) = false := by simp [hw]
  generalize wellP p = wl at hb
  conv => whnf
  refine ⟨{ i : Nat // i ≤ p.length }, fun i => St [(1, .pp (.loc 1) 0), (2, .pp (.loc 2) 0), (3, vCo (p.take i.1)), (4, .sc (.bool false)), (14, vC p), (15, .sc (.int .i64 p.length)), (16, .sc (.int .i64 i.1))] [(1, .cells 0 [vC p]), (2, .cells 0 [.undef])] [], fun i => p.length - i.1, ⟨0, Nat.zero_le _⟩, ?_, ?_⟩
  · exact wk_of ⟨avle_refl _, avle_refl _, avle_nil _ _, avle_eq (by rw [← hb]; rfl), avle_refl _, avle_refl _, avle_refl _, trivial⟩ ⟨oble_refl _, oble_cells ⟨avle_undef _, trivial⟩, trivial⟩ rfl ⟨trivial, trivial, trivial, trivial, trivial, trivial, trivial, trivial⟩
  rintro ⟨i, hi⟩
  conv => whnf
  split
  · rename_i hlt
    have hlt : i < p.length := by simpa using hlt
    have hwrap : IntKind.i64.wrap ((i : Int) + 1) = ((i + 1 : Nat) : Int) := (wrap_small _ (by omega) (by omega)).trans (by omega)
    have htk := take_cells (g := cC) (n := 4) (fun _ => rfl) p i hlt
    have hir : (0 : Int) ≤ (i : Int) ∧ (i : Int) < p.length := ⟨Int.natCast_nonneg _, Int.ofNat_lt.2 hlt⟩
    have h25 := ok25p p[i] (hs p[i] (List.getElem_mem hlt))
    have htm : p.take (i + 1) = p.take i ++ [p[i]] := List.take_succ_eq_append_getElem hlt
    have hln : (p.take i).length = i := by simp; omega
    generalize p[i] = c at htk h25 htm
    have hslot := vCo_app (p.take i) c
    rw [← htm] at hslot
    conv => whnf
    refine ⟨hir, _, htk, ?_⟩
    conv => whnf
    refine use_pure h25 (nr1 (nr_aCl c)) ?_
    conv => whnf
    refine ⟨⟨by show (p.take i).length + 1 ≤ _; omega, by show ((p.take i).length + 1) * 72 ≤ _; omega, rfl⟩, ?_⟩
    conv => whnf
    exact ⟨⟨i + 1, hlt⟩, wk_of ⟨avle_refl _, avle_refl _, avle_eq hslot, avle_refl _, avle_refl _, avle_refl _, avle_int hwrap, trivial⟩ ⟨oble_refl _, oble_refl _, trivial⟩ rfl ⟨trivial, trivial, trivial, trivial, trivial, trivial, trivial, trivial⟩, Nat.sub_lt_sub_left hlt (Nat.lt_succ_self i)⟩
  · rename_i hlt
    have hlt : p.length ≤ i := by simpa using hlt
    have htm : p.take i = p := List.take_of_length_le hlt
    have hres : AV.agg [.vec false 4 (p.take i).length ((p.take i).flatMap cC)] = aP p := by rw [htm]; rfl
    conv => whnf
    exact ⟨(congrArg nr hres).trans (nr_aP p), hres⟩
set_option maxHeartbeats 4000000 in
theorem ok9w (p : List Cl) (hp : p.length ≤ 1000000) (hs : ∀ c ∈ p, SzC c) (hg : ∀ c ∈ p, Gd c) (hw : wellP p = 0) : POk 9 [aP p] (aP (trimL p)) := by
  have h19 := ok19 p
  refine fn_ok mixed (En_ok _ _ _ _) (pl := fun _ => []) (fn := Go.Proofs.Tryz.f9) (c := _) (by kernel_rfl) rfl (by decide) (by kernel_rfl) (E := E2 [] [25, 26]) ?_
  conv => whnf
  refine use_pure h19 (nr1 (nr_aP p)) ⟨rfl, ?_⟩
  have htr : trimL p = keepG (keptL (liveL p)) (liveL p) 0 := if_pos hw
  have hb : decide (wellP p = 0) = true := by simp [hw]
  generalize wellP p = wl at hb
  conv => whnf
  refine ⟨{ x : Nat × List AObj // x.1 ≤ p.length }, fun i => St [(1, .pp (.loc 1) 0), (2, .pp (.loc 2) 0), (3, vCo (liveL (p.take i.1.1))), (4, .sc (.bool true)), (14, vC p), (15, .sc (.int .i64 p.length)), (16, .sc (.int .i64 i.1.1))] [(1, .cells 0 [vC p]), (2, .cells 0 [.undef])] i.1.2, fun i => p.length - i.1.1, ⟨(0, []), Nat.zero_le _⟩, ?_, ?_⟩
  · exact wk_of ⟨avle_refl _, avle_refl _, avle_nil _ _, avle_eq (by rw [← hb]; rfl), avle_refl _, avle_refl _, avle_refl _, trivial⟩ ⟨oble_refl _, oble_cells ⟨avle_undef _, trivial⟩, trivial⟩ rfl ⟨trivial, trivial, trivial, trivial, trivial, trivial, trivial, trivial⟩
  rintro ⟨⟨i, gs⟩, hi⟩
  simp only at hi
  conv => whnf
  split
  · rename_i hlt
    have hlt : i < p.length := by simpa using hlt
    have hwrap : IntKind.i64.wrap ((i : Int) + 1) = ((i + 1 : Nat) : Int) := (wrap_small _ (by omega) (by omega)).trans (by omega)
    have htk := take_cells (g := cC) (n := 4) (fun _ => rfl) p i hlt
    have hir : (0 : Int) ≤ (i : Int) ∧ (i : Int) < p.length := ⟨Int.natCast_nonneg _, Int.ofNat_lt.2 hlt⟩
    have h25 := ok25 p[i] (hs p[i] (List.getElem_mem hlt)) gs
    have hblen : p[i].body.length ≤ 9223372036854775807 := Nat.le_trans (clause_zero (hg p[i] (List.getElem_mem hlt)).1).2.1 (by decide)
    have h26 := ok26f p[i].body hblen 27 (fun l => (cmpdP l).1) ok27 (gs ++ [.cells 0 (p[i].body.flatMap cL)]) gs.length p[i].body.length (Nat.le_refl _) (get_last _ _)
    have hgd := Gd_filter (fun l => !(cmpdP l).1) (hg p[i] (List.getElem_mem hlt))
    have hcz := clause_zero hgd.1
    have h21 := ok21 (dropL p[i]) (Nat.le_trans hcz.2.1 (by decide)) (fun m hm => Nat.le_trans (lit_args (hcz.2.2 m hm)) (by decide))
    have hls := liveL_step p i hlt
    have hln : (liveL (p.take i)).length ≤ i := Nat.le_trans (liveL_len _) (by simp; omega)
    generalize p[i] = c at htk h25 h26 h21 hls
    have hvl : vL (c.body.filter fun x => !(cmpdP x).1) = vL (dropL c).body := rfl
    rw [hvl] at h26
    have hcx : (dropL c).head = c.head := rfl
    generalize dropL c = x at h26 h21 hls hcx
    have hcC : cC x = [.sc (.string c.head.pred), vT c.head.args, .sc (.int .i64 c.head.off), vL x.body] := by rw [show cC x = cA x.head ++ [vL x.body] from rfl, hcx]; rfl
    have hax : aCl x = .agg [.sc (.string c.head.pred), vT c.head.args, .sc (.int .i64 c.head.off), vL x.body] := congrArg AV.agg hcC
    rw [hax] at h21
    generalize idxP (faultL x.body) x.body 0 = ix at h21 hls
    have hslot := vCo_app (liveL (p.take i)) x
    conv => whnf
    refine ⟨hir, _, htk, ?_⟩
    conv => whnf
    refine use_c h25 ?_
    rintro v gs' ⟨rfl, rfl⟩
    conv => whnf
    refine use_c h26 ?_
    rintro v gs' ⟨rfl, rfl⟩
    conv => whnf
    refine use_pure h21 (nr1 ((congrArg nr hax).symm.trans (nr_aCl x))) ⟨rfl, ?_⟩
    conv => whnf
    split
    · rename_i e
      have e : ix ≥ 0 := by simpa using e
      rw [if_pos e] at hls
      conv => whnf
      exact ⟨⟨(i + 1, (gs ++ [AObj.cells 0 (c.body.flatMap cL)]).set gs.length .dead), hlt⟩, wk_of ⟨avle_refl _, avle_refl _, avle_eq (congrArg vCo hls), avle_refl _, avle_refl _, avle_refl _, avle_int hwrap, trivial⟩ ⟨oble_refl _, oble_refl _, trivial⟩ rfl ⟨trivial, trivial, trivial, trivial, trivial, trivial, trivial, trivial⟩, Nat.sub_lt_sub_left hlt (Nat.lt_succ_self i)⟩
    · rename_i e
      have e : ¬ ix ≥ 0 := by simpa using e
      rw [if_neg e] at hls
      rw [← hls, hcC] at hslot
      conv => whnf
      refine ⟨⟨by show (liveL (p.take i)).length + 1 ≤ _; omega, by show ((liveL (p.take i)).length + 1) * 72 ≤ _; omega, rfl⟩, ?_⟩
      conv => whnf
      exact ⟨⟨(i + 1, (gs ++ [AObj.cells 0 (c.body.flatMap cL)]).set gs.length .dead), hlt⟩, wk_of ⟨avle_refl _, avle_refl _, avle_eq hslot, avle_refl _, avle_refl _, avle_refl _, avle_int hwrap, trivial⟩ ⟨oble_refl _, oble_refl _, trivial⟩ rfl ⟨trivial, trivial, trivial, trivial, trivial, trivial, trivial, trivial⟩, Nat.sub_lt_sub_left hlt (Nat.lt_succ_self i)⟩
  rename_i hlt
  have hlt : p.length ≤ i := by simpa using hlt
  have htm : p.take i = p := List.take_of_length_le hlt
  have hlg := liveL_mem hg
  have hll := liveL_len p
  have hlx : avle (vCo (liveL (p.take i))) (vC (liveL p)) := by rw [htm]; exact avle_dm'
  have hlv : avle (vC (liveL (p.take i))) (vC (liveL p)) := by rw [htm]; exact avle_refl _
  have hln : ((liveL (p.take i)).length : Int) = (liveL p).length := by rw [htm]
  generalize hq : liveL p = q at hlg hll htr hlx hln hlv
  generalize hkf : keptL q = kf at htr
  conv => whnf
  refine ⟨{ j : Nat // j ≤ q.length }, fun j => St [(2, .pp (.loc 2) 0), (7, .pp (.loc 7) 0), (3, vC q), (39, vC q), (40, .sc (.int .i64 q.length)), (41, .sc (.int .i64 j.1))] [(2, .cells 0 [.undef]), (7, .cells 0 [vCo (keepG kf (q.take j.1) 0)])] gs, fun j => q.length - j.1, ⟨0, Nat.zero_le _⟩, ?_, ?_⟩
  · exact wk_of ⟨avle_refl _, avle_refl _, hlx, hlv, avle_int hln, avle_refl _, trivial⟩ ⟨oble_refl _, oble_cells ⟨avle_nil _ _, trivial⟩, trivial⟩ rfl ⟨trivial, trivial, trivial, trivial, trivial, trivial, trivial⟩
  rintro ⟨j, hj⟩
  conv => whnf
  split
  · rename_i hlt
    have hlt : j < q.length := by simpa using hlt
    have hwrap : IntKind.i64.wrap ((j : Int) + 1) = ((j + 1 : Nat) : Int) := (wrap_small _ (by omega) (by omega)).trans (by omega)
    have htk := take_cells (g := cC) (n := 4) (fun _ => rfl) q j hlt
    have hir : (0 : Int) ≤ (j : Int) ∧ (j : Int) < q.length := ⟨Int.natCast_nonneg _, Int.ofNat_lt.2 hlt⟩
    have h20 := ok20 q j q[j] hlg (by omega) (List.getElem?_eq_getElem hlt)
    have hks := keep_step kf q j hlt
    have hln : (keepG kf (q.take j) 0).length ≤ j := Nat.le_trans (keep_len _ _ _) (by simp; omega)
    generalize hc : q[j] = c at htk h20 hks
    have hkc : kf j c = decide (((othF j c (twL q j c) (cvL q j c)).length : Int) = 0) := by rw [← hkf]; rfl
    generalize othF j c (twL q j c) (cvL q j c) = fo at h20 hkc
    have hslot := vCo_app (keepG kf (q.take j) 0) c
    conv => whnf
    refine ⟨hir, _, htk, ?_⟩
    conv => whnf
    refine use_pure h20 (nr2 (nr_vC q) rfl) ⟨rfl, ?_⟩
    conv => whnf
    split
    · rename_i e
      have e : decide ((fo.length : Int) = 0) = true := e
      rw [if_pos (hkc.trans e)] at hks
      rw [← hks] at hslot
      conv => whnf
      refine ⟨⟨by show (keepG kf (q.take j) 0).length + 1 ≤ _; omega, by show ((keepG kf (q.take j) 0).length + 1) * 72 ≤ _; omega, rfl⟩, ?_⟩
      conv => whnf
      exact ⟨⟨j + 1, hlt⟩, wk_of ⟨avle_refl _, avle_refl _, avle_refl _, avle_refl _, avle_refl _, avle_int hwrap, trivial⟩ ⟨oble_refl _, oble_cells ⟨avle_eq hslot, trivial⟩, trivial⟩ rfl ⟨trivial, trivial, trivial, trivial, trivial, trivial, trivial⟩, Nat.sub_lt_sub_left hlt (Nat.lt_succ_self j)⟩
    · rename_i e
      have e : decide ((fo.length : Int) = 0) = false := e
      rw [if_neg (by rw [hkc, e]; decide)] at hks
      conv => whnf
      exact ⟨⟨j + 1, hlt⟩, wk_of ⟨avle_refl _, avle_refl _, avle_refl _, avle_refl _, avle_refl _, avle_int hwrap, trivial⟩ ⟨oble_refl _, oble_cells ⟨avle_eq (congrArg vCo hks), trivial⟩, trivial⟩ rfl ⟨trivial, trivial, trivial, trivial, trivial, trivial, trivial⟩, Nat.sub_lt_sub_left hlt (Nat.lt_succ_self j)⟩
  · rename_i hlt
    have hlt : q.length ≤ j := by simpa using hlt
    have htm : q.take j = q := List.take_of_length_le hlt
    have hres : AV.agg [.vec false 4 (keepG kf (q.take j) 0).length ((keepG kf (q.take j) 0).flatMap cC)] = aP (trimL p) := by rw [htm, htr]; rfl
    conv => whnf
    exact ⟨(congrArg nr hres).trans (nr_aP _), hres⟩
end Go.Proofs.YtjchgncgkhofhaaGreat.AL
/- The row of LintTrims: both sides trim alike; from the pure law to the row. -/
set_option linter.unusedVariables false
namespace Go.Proofs.YtjchgncgkhofhaaGreat.AL
open Go Go.ChangeShapes Go.WideShapes Go.ChangeAt Go.RowKit

theorem tw_eq {p : List Cl} (hg : ∀ c ∈ p, Gd c) (i : Nat) {c : Cl} (hc : c ∈ p) : twP p i c = twL p i c := by
  unfold twP twL
  exact idxP_congr _ _ fun d hd => by rw [ag_eq (hg c hc) (hg d (List.mem_of_mem_take hd)), agL_sw]
theorem cv_eq {p : List Cl} (hg : ∀ c ∈ p, Gd c) (i : Nat) {c : Cl} (hc : c ∈ p) : cvP p i c = cvL p i c := by
  unfold cvP cvL
  refine idxN_congr _ _ fun j d hd => ?_
  unfold cvF cvFL
  rw [cov_eq (hg d hd) (hg c hc), cov_eq (hg c hc) (hg d hd)]
  have : covL d c = true → d.head.pred = c.head.pred := by
    unfold covL
    simp only [Bool.and_eq_true, decide_eq_true_eq]
    exact fun h => h.2.1
  cases hcv : covL d c with
  | false => simp
  | true => simp [this hcv]
theorem clean_eq {c : Cl} (h : Gd c) : cleanP c = dropL c := by
  have hb := (clause_zero h.1).2.2
  unfold cleanP dropL
  congr 1
  refine List.filter_congr fun l hl => ?_
  rw [← (verd_cmpd (hb l hl)).1]
  by_cases k : verdP l ≤ 0
  · simp [k]
  · simp [k]; omega
theorem live_eq {p : List Cl} (hg : ∀ c ∈ p, Gd c) : liveR p = liveL p := by
  unfold liveR liveL
  rw [List.map_congr_left fun c hc => clean_eq (hg c hc)]
  refine List.filter_congr fun c hc => ?_
  obtain ⟨x, hx, rfl⟩ := List.mem_map.1 hc
  have hb := (clause_zero (Gd_filter (fun l => !(cmpdP l).1) (hg x hx)).1).2.2
  have e : idxP (faultR (dropL x).body) (dropL x).body 0 = idxP (faultL (dropL x).body) (dropL x).body 0 := idxP_congr _ _ fun l hl => fault_eq (hb l hl)
  rw [e]
  by_cases k : idxP (faultL (dropL x).body) (dropL x).body 0 < 0
  · simp [k]
  · simp [k]; omega
theorem keep_congr {f g : Nat → Cl → Bool} : ∀ (l : List Cl) (i : Nat), (∀ j, ∀ x ∈ l, f j x = g j x) → keepG f l i = keepG g l i
  | [], _, _ => rfl
  | x :: l, i, h => by
    simp only [keepG]
    rw [h i x (List.mem_cons_self ..), keep_congr l _ fun j y hy => h j y (List.mem_cons_of_mem _ hy)]
theorem kept_eq {l : List Cl} (hg : ∀ c ∈ l, Gd c) (i : Nat) {c : Cl} (hc : c ∈ l) : keptR l i c = keptL l i c := by
  unfold keptR keptL
  rw [tw_eq hg i hc, cv_eq hg i hc]
  unfold othF
  by_cases h1 : twL l i c ≥ 0
  · rw [if_pos h1]; simp; omega
  · rw [if_neg h1]
    by_cases h2 : cvL l i c ≥ 0
    · rw [if_pos h2]; simp; omega
    · rw [if_neg h2]; simp; omega
theorem trim_eq (p : List Cl) (hg : wellP p = 0 → ∀ c ∈ p, Gd c) : trimR p = trimL p := by
  unfold trimR trimL
  by_cases hw : wellP p = 0
  · rw [if_pos hw, if_pos hw, live_eq (hg hw)]
    have hl : ∀ c ∈ liveL p, Gd c := liveL_mem (hg hw)
    exact keep_congr _ _ fun j x hx => kept_eq hl j hx
  · rw [if_neg hw, if_neg hw]
attribute [local irreducible] PlainFn CallOk in
set_option maxHeartbeats 1000000 in
theorem ok4 (p q : List Cl) (h5 : POk 5 [aP p] (aP p)) (h8 : POk 8 [aP p] (aP q)) (h9 : POk 9 [aP p] (aP q)) (h10 : POk 10 [aP q, aP q] (.sc (.bool true))) : POk 4 [aP p] (.sc (.bool true)) := by
  refine fn_ok mixed (En_ok _ _ _ _) (pl := fun _ => []) (fn := Go.Proofs.Tryz.f4) (c := _) (by kernel_rfl) rfl (by decide) (by kernel_rfl) (E := E0) ?_
  conv => whnf
  refine use_pure h5 (nr1 (nr_aP p)) ⟨rfl, ?_⟩
  conv => whnf
  refine use_pure h5 (nr1 (nr_aP p)) ⟨rfl, ?_⟩
  conv => whnf
  refine use_pure h8 (nr1 (nr_aP p)) ⟨rfl, ?_⟩
  conv => whnf
  refine use_pure h9 (nr1 (nr_aP p)) ⟨rfl, ?_⟩
  conv => whnf
  refine use_pure h10 (nr2 (nr_aP q) (nr_aP q)) ⟨rfl, ?_⟩
  conv => whnf
  exact ⟨rfl, rfl⟩
theorem keepL_mem {f : Nat → Cl → Bool} {p : List Cl} (hs : ∀ c ∈ p, SzC c) : ∀ c ∈ keepG f (liveL p) 0, SzC c := by
  intro c hc
  obtain ⟨x, hx, rfl⟩ := List.mem_map.1 (List.mem_filter.1 (keep_mem _ _ _ c hc)).1
  exact SzC_filter _ (hs x hx)
theorem sz_len {c : Cl} (h : SzC c) : c.head.args.length ≤ 9223372036854775807 ∧ c.body.length ≤ 9223372036854775807 ∧ ∀ m ∈ c.body, m.atom.args.length ≤ 9223372036854775807 := by
  obtain ⟨h1, h2, h3⟩ := h
  exact ⟨by omega, by omega, fun m hm => by have := h3 m hm; omega⟩
theorem trims_ok (p : List Cl) (hq : ∀ x ∈ p, clauseR x ∧ SzC x) (hl : p.length * 72 ≤ reachBytes) : POk 4 [aP p] (.sc (.bool true)) := by
  have hs : ∀ c ∈ p, SzC c := fun c hc => (hq c hc).2
  have hlen := Nat.le_trans hl reach_le
  have h5 := ok5 p hlen hs
  by_cases hw : wellP p = 0
  · have hg : ∀ c ∈ p, Gd c := fun c hc => ⟨(well_zero hw).2 c hc, (hq c hc).1⟩
    have hn : p.length ≤ 1000000 := Nat.le_trans (well_zero hw).1 (by decide)
    have h8 := ok8w p hn hs hg hw
    rw [trim_eq p fun _ => hg] at h8
    have h9 := ok9w p hn hs hg hw
    have htr : trimL p = keepG (keptL (liveL p)) (liveL p) 0 := if_pos hw
    refine ok4 p _ h5 h8 h9 (ok10 _ ?_ ?_)
    · rw [htr]
      have h1 := keep_len (keptL (liveL p)) (liveL p) 0
      have h2 := liveL_len p
      omega
    · rw [htr]
      exact fun c hc => sz_len (keepL_mem hs c hc)
  · exact ok4 p p h5 (ok8n p hlen hs hw) (ok9n p hlen hs hw) (ok10 p (by omega) fun c hc => sz_len (hs c hc))
end Go.Proofs.YtjchgncgkhofhaaGreat.AL
namespace Go.Proofs.YtjchgncgkhofhaaGreat
open Go Go.ChangeShapes Go.WideShapes Go.ChangeAt Go.RowKit Go.Proofs.YtjchgncgkhofhaaGreat.AL
set_option maxRecDepth 100000 in
/-- LintTrims answers true for every program, and leaves it as it was. -/
theorem trims_holds : Rows.LintTrimsSaid :=
  OpenClaim.holds_of_wide 4 Go.Proofs.Tryz.f4 rfl rfl rfl rfl rfl rfl rfl ⟨rfl, rfl, rfl, rfl, rfl⟩ rfl rfl rfl rfl rfl (by kernel_rfl) (by kernel_rfl) (by kernel_rfl)
    (of_decide_eq_true (by kernel_rfl)) (by unfold Func.isWrapper; rw [if_neg (of_decide_eq_false (by kernel_rfl))]; exact ⟨rfl, rfl⟩)
    (fun os started H enc _ => law_lifted (by kernel_rfl) (by kernel_rfl) (by kernel_rfl) (by kernel_rfl) Rows.lintTrimsSpec rfl (fun _ _ => rfl)
      (fun os started H enc => ChangeSpec.witness6 (enc := enc) (C := Go.Proofs.Tryz.checked) false ⟨#[], #[.agg #[.slice none 0 0]], []⟩ 8 (by kernel_rfl) (by kernel_rfl) (by kernel_rfl) (by kernel_rfl)) trims_ok os started H enc)
#print axioms trims_holds
end Go.Proofs.YtjchgncgkhofhaaGreat
