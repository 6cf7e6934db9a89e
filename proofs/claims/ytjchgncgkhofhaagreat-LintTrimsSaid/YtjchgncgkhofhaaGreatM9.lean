/- The program's functions in abstract words: edictref04: what is well formed. -/
import Derived.Test.YtjchgncgkhofhaaGreatM8
import Derived.KernelRfl
set_option linter.unusedVariables false
namespace Go.Proofs.YtjchgncgkhofhaaGreat.AL
open Go
attribute [local irreducible] PlainFn CallOk

theorem ok52 (a : At) : POk 52 [aA a] (.sc (.int .i64 (atomP a))) := by
  refine fn_ok mixed (En_ok _ _ _ _) (pl := fun _ => []) (fn := Go.Proofs.Tryz.f52) (c := _) (by kernel_rfl) rfl (by decide) (by kernel_rfl) (E := E0) ?_
  conv => whnf
  refine use_pure (ok74 _) rfl ⟨rfl, ?_⟩
  conv => whnf
  split
  · conv => whnf
    exact ⟨rfl, by simp_all [atomP]⟩
  rename_i hname
  conv => whnf
  split
  · conv => whnf
    refine ⟨rfl, ?_⟩
    simp_all [atomP]
    omega
  rename_i hlen
  have hname : nameP a.pred = true := by simpa using hname
  have hlen : a.args.length ≤ 8 := by have := of_decide_eq_false hlen; omega
  have hat : atomP a = firstP termP a.args := by simp [atomP, hname]; omega
  conv => whnf
  refine ⟨{ i : Nat // firstP termP a.args = firstP termP (a.args.drop i) }, fun i => St [(1, .pp (.loc 1) 0), (2, .sc (.int .i64 0)), (3, .sc (.int .i64 i.1))] [(1, .cells 0 (cA a))] [], fun i => a.args.length - i.1, ⟨0, rfl⟩, ?_, ?_⟩
  · exact wk_of ⟨avle_refl _, avle_refl _, avle_refl _, trivial⟩ ⟨oble_refl _, trivial⟩ rfl ⟨trivial, trivial, trivial, trivial⟩
  rintro ⟨i, hinv⟩
  conv => whnf
  split
  · rename_i hlt
    have hlt : i < a.args.length := by simpa using hlt
    have hwrap : IntKind.i64.wrap ((i : Int) + 1) = ((i + 1 : Nat) : Int) := (wrap_small _ (by omega) (by omega)).trans (by omega)
    rw [first_drop termP a.args i hlt] at hinv
    conv => whnf
    refine ⟨⟨Int.natCast_nonneg _, Int.ofNat_lt.2 hlt⟩, _, take_cells (g := cT) (n := 4) (fun _ => rfl) a.args i hlt, ?_⟩
    generalize a.args[i] = t at hinv
    conv => whnf
    refine use_pure (ok75 t) rfl ⟨rfl, ?_⟩
    conv => whnf
    split
    · rename_i hf
      have hf : ¬ termP t = 0 := by simpa using hf
      conv => whnf
      exact ⟨rfl, by rw [hat, hinv, if_neg hf]⟩
    · rename_i hf
      have hf : termP t = 0 := by simpa using hf
      rw [if_pos hf] at hinv
      conv => whnf
      exact ⟨⟨i + 1, hinv⟩, wk_of ⟨avle_refl _, avle_refl _, avle_int hwrap, trivial⟩ ⟨oble_refl _, trivial⟩ rfl ⟨trivial, trivial, trivial, trivial⟩, Nat.sub_lt_sub_left hlt (Nat.lt_succ_self i)⟩
  · rename_i hlt
    have hlt : a.args.length ≤ i := by simpa using hlt
    conv => whnf
    refine ⟨rfl, ?_⟩
    rw [hat, hinv, List.drop_of_length_le hlt]; rfl
theorem ok53 (l : Lt) : POk 53 [aL l] (.sc (.int .i64 (litP l))) := by
  refine fn_ok mixed (En_ok _ _ _ _) (pl := fun _ => []) (fn := Go.Proofs.Tryz.f53) (c := _) (by kernel_rfl) rfl (by decide) (by kernel_rfl) (E := E0) ?_
  repeat' ((conv => whnf); first
      | refine use_pure (ok76 l.left) rfl ⟨rfl, ?_⟩
      | refine use_pure (ok76 l.right) rfl ⟨rfl, ?_⟩
      | refine use_pure (ok52 l.atom) (nr1 (nr_aA _)) ⟨rfl, ?_⟩
      | refine use_pure (ok75 l.left) rfl ⟨rfl, ?_⟩
      | refine use_pure (ok75 l.right) rfl ⟨rfl, ?_⟩
      | split)
  all_goals (conv => whnf)
  all_goals (refine ⟨rfl, ?_⟩)
  all_goals (first | rfl | (simp_all [litP, firstP]; done) | (simp_all [litP, firstP]; omega) | skip)

theorem ok30 (a : Cl) : POk 30 [aCl a] (.sc (.int .i64 (clauseP a))) := by
  refine fn_ok mixed (En_ok _ _ _ _) (pl := fun _ => []) (fn := Go.Proofs.Tryz.f30) (c := _) (by kernel_rfl) rfl (by decide) (by kernel_rfl) (E := E0) ?_
  conv => whnf
  refine use_pure (ok52 a.head) (nr1 (nr_aA _)) ⟨rfl, ?_⟩
  conv => whnf
  split
  · conv => whnf
    exact ⟨rfl, by simp_all [clauseP]⟩
  rename_i hhead
  have hhead : atomP a.head = 0 := by simpa using hhead
  conv => whnf
  split
  · rename_i hlen
    have hlen : 16 < a.body.length := by have := of_decide_eq_true hlen; omega
    conv => whnf
    exact ⟨rfl, by simp [clauseP, hhead, hlen]⟩
  rename_i hlen
  have hlen : a.body.length ≤ 16 := by have := of_decide_eq_false hlen; omega
  have hat : clauseP a = firstP litP a.body := by simp [clauseP, hhead]; omega
  conv => whnf
  refine ⟨{ i : Nat // firstP litP a.body = firstP litP (a.body.drop i) }, fun i => St [(1, .pp (.loc 1) 0), (2, .sc (.int .i64 0)), (4, .sc (.int .i64 i.1))] [(1, .cells 0 (cC a))] [], fun i => a.body.length - i.1, ⟨0, rfl⟩, ?_, ?_⟩
  · exact wk_of ⟨avle_refl _, avle_refl _, avle_refl _, trivial⟩ ⟨oble_refl _, trivial⟩ rfl ⟨trivial, trivial, trivial, trivial⟩
  rintro ⟨i, hinv⟩
  conv => whnf
  split
  · rename_i hlt
    have hlt : i < a.body.length := by simpa using hlt
    have hwrap : IntKind.i64.wrap ((i : Int) + 1) = ((i + 1 : Nat) : Int) := (wrap_small _ (by omega) (by omega)).trans (by omega)
    rw [first_drop litP a.body i hlt] at hinv
    conv => whnf
    refine ⟨⟨Int.natCast_nonneg _, Int.ofNat_lt.2 hlt⟩, _, take_cells (g := cL) (n := 14) (fun _ => rfl) a.body i hlt, ?_⟩
    generalize a.body[i] = t at hinv
    conv => whnf
    refine use_pure (ok53 t) (nr1 (nr_aL _)) ⟨rfl, ?_⟩
    conv => whnf
    split
    · rename_i hf
      have hf : ¬ litP t = 0 := by simpa using hf
      conv => whnf
      exact ⟨rfl, by rw [hat, hinv, if_neg hf]⟩
    · rename_i hf
      have hf : litP t = 0 := by simpa using hf
      rw [if_pos hf] at hinv
      conv => whnf
      exact ⟨⟨i + 1, hinv⟩, wk_of ⟨avle_refl _, avle_refl _, avle_int hwrap, trivial⟩ ⟨oble_refl _, trivial⟩ rfl ⟨trivial, trivial, trivial, trivial⟩, Nat.sub_lt_sub_left hlt (Nat.lt_succ_self i)⟩
  · rename_i hlt
    have hlt : a.body.length ≤ i := by simpa using hlt
    conv => whnf
    refine ⟨rfl, ?_⟩
    rw [hat, hinv, List.drop_of_length_le hlt]; rfl

theorem ok12 (a : List Cl) : POk 12 [aP a] (.sc (.int .i64 (wellP a))) := by
  refine fn_ok mixed (En_ok _ _ _ _) (pl := fun _ => []) (fn := Go.Proofs.Tryz.f12) (c := _) (by kernel_rfl) rfl (by decide) (by kernel_rfl) (E := E0) ?_
  conv => whnf
  split
  · rename_i hlen
    have hlen : 512 < a.length := by have := of_decide_eq_true hlen; omega
    conv => whnf
    exact ⟨rfl, by simp [wellP, hlen]⟩
  rename_i hlen
  have hlen : a.length ≤ 512 := by have := of_decide_eq_false hlen; omega
  have hat : wellP a = firstP clauseP a := by simp [wellP]; omega
  conv => whnf
  refine ⟨{ i : Nat // firstP clauseP a = firstP clauseP (a.drop i) }, fun i => St [(1, .pp (.loc 1) 0), (2, .sc (.int .i64 0)), (3, .sc (.int .i64 i.1))] [(1, .cells 0 [vC a])] [], fun i => a.length - i.1, ⟨0, rfl⟩, ?_, ?_⟩
  · exact wk_of ⟨avle_refl _, avle_refl _, avle_refl _, trivial⟩ ⟨oble_refl _, trivial⟩ rfl ⟨trivial, trivial, trivial, trivial⟩
  rintro ⟨i, hinv⟩
  conv => whnf
  split
  · rename_i hlt
    have hlt : i < a.length := by simpa using hlt
    have hwrap : IntKind.i64.wrap ((i : Int) + 1) = ((i + 1 : Nat) : Int) := (wrap_small _ (by omega) (by omega)).trans (by omega)
    rw [first_drop clauseP a i hlt] at hinv
    conv => whnf
    refine ⟨⟨Int.natCast_nonneg _, Int.ofNat_lt.2 hlt⟩, _, take_cells (g := cC) (n := 4) (fun _ => rfl) a i hlt, ?_⟩
    generalize a[i] = t at hinv
    conv => whnf
    refine use_pure (ok30 t) (nr1 (nr_aCl _)) ⟨rfl, ?_⟩
    conv => whnf
    split
    · rename_i hf
      have hf : ¬ clauseP t = 0 := by simpa using hf
      conv => whnf
      exact ⟨rfl, by rw [hat, hinv, if_neg hf]⟩
    · rename_i hf
      have hf : clauseP t = 0 := by simpa using hf
      rw [if_pos hf] at hinv
      conv => whnf
      exact ⟨⟨i + 1, hinv⟩, wk_of ⟨avle_refl _, avle_refl _, avle_int hwrap, trivial⟩ ⟨oble_refl _, trivial⟩ rfl ⟨trivial, trivial, trivial, trivial⟩, Nat.sub_lt_sub_left hlt (Nat.lt_succ_self i)⟩
  · rename_i hlt
    have hlt : a.length ≤ i := by simpa using hlt
    conv => whnf
    refine ⟨rfl, ?_⟩
    rw [hat, hinv, List.drop_of_length_le hlt]; rfl
end Go.Proofs.YtjchgncgkhofhaaGreat.AL
/- The program's functions in abstract words: lint's and the reference's small ones. -/
set_option linter.unusedVariables false
namespace Go.Proofs.YtjchgncgkhofhaaGreat.AL
open Go
attribute [local irreducible] PlainFn CallOk

def usB : ByteArray := ⟨#[95]⟩
def isVar (t : Tm) : Bool := decide (t.kind = 4)
def anon (t : Tm) : Bool := isVar t && decide (t.text = usB)
theorem ok49 (t : Tm) : POk 49 [aT t] (.sc (.bool (isVar t))) := by
  refine fn_ok mixed (En_ok _ _ _ _) (pl := fun _ => []) (fn := Go.Proofs.Tryz.f49) (c := _) (by kernel_rfl) rfl (by decide) (by kernel_rfl) (E := E0) ?_
  repeat' ((conv => whnf); first
      | split)
  all_goals (conv => whnf)
  all_goals (refine ⟨rfl, ?_⟩)
  all_goals (first | rfl | (simp_all [isVar]; done) | (simp_all [isVar]; omega) | skip)
theorem ok65 (t : Tm) : POk 65 [aT t] (.sc (.bool (anon t))) := by
  refine fn_ok mixed (En_ok _ _ _ _) (pl := fun _ => []) (fn := Go.Proofs.Tryz.f65) (c := _) (by kernel_rfl) rfl (by decide) (by kernel_rfl) (E := E0) ?_
  repeat' ((conv => whnf); first
      | refine use_pure (ok49 t) rfl ⟨rfl, ?_⟩
      | split)
  all_goals (conv => whnf)
  all_goals (refine ⟨rfl, ?_⟩)
  all_goals (first | rfl | (rename_i h; rw [anon, h]; rfl) | skip)
def bareT (t : Tm) : Tm := { t with off := 0 }
theorem ok66 (t : Tm) : POk 66 [aT t] (aT (bareT t)) := by
  refine fn_ok mixed (En_ok _ _ _ _) (pl := fun _ => []) (fn := Go.Proofs.Tryz.f66) (c := _) (by kernel_rfl) rfl (by decide) (by kernel_rfl) (E := E0) ?_
  repeat' ((conv => whnf); first
      | split)
  all_goals (conv => whnf)
  all_goals (refine ⟨rfl, ?_⟩)
  all_goals (first | rfl | (simp_all [aT, bareT]; done) | (simp_all [aT, bareT]; omega) | skip)
theorem ok51 (t : Tm) : POk 51 [aT t] (aC t) := by
  refine fn_ok mixed (En_ok _ _ _ _) (pl := fun _ => []) (fn := Go.Proofs.Tryz.f51) (c := _) (by kernel_rfl) rfl (by decide) (by kernel_rfl) (E := E0) ?_
  repeat' ((conv => whnf); first
      | split)
  all_goals (conv => whnf)
  all_goals (refine ⟨rfl, ?_⟩)
  all_goals (first | rfl | (simp_all [aC]; done) | (simp_all [aC]; omega) | skip)
/-- lint.same -/
def sameT (a b : Tm) : Bool := decide (a.kind = b.kind) && (decide (a.num = b.num) && decide (a.text = b.text)) && !anon a
theorem ok47 (a b : Tm) : POk 47 [aT a, aT b] (.sc (.bool (sameT a b))) := by
  refine fn_ok mixed (En_ok _ _ _ _) (pl := fun _ => (List.range 11).map Pl.one) (fn := Go.Proofs.Tryz.f47) (c := _) (by kernel_rfl) rfl (by decide) (by kernel_rfl) (E := E0) ?_
  conv => whnf
  refine And.intro (by kernel_rfl) ?_
  repeat' ((conv => whnf); first
      | refine use_ex (ok66 a) rfl ⟨rfl, ?_⟩
      | refine use_ex (ok66 b) rfl ⟨rfl, ?_⟩
      | refine use_ex (ok65 a) rfl ⟨rfl, ?_⟩
      | split)
  all_goals (conv => whnf)
  all_goals (refine ⟨rfl, ?_⟩)
  all_goals (rename_i h)
  all_goals (have h : (decide (a.kind = b.kind) && (decide (a.num = b.num) && (decide (a.text = b.text) && true))) = _ := h)
  all_goals (rw [Bool.and_true] at h; simp only [sameT]; rw [h]; rfl)
/-- A thing of a clause: a term, a _ with a number of its own. -/
structure Th where
  kind : Int
  num : Int
  text : ByteArray
  own : Int
  deriving DecidableEq
def cTh (t : Th) : List AV := [.sc (.int .i64 t.kind), .sc (.int .i64 t.num), .sc (.string t.text), .sc (.int .i64 t.own)]
def aTh (t : Th) : AV := .agg (cTh t)
def vTh (l : List Th) : AV := .vec false 4 l.length (l.flatMap cTh)
theorem nr_vTh (l : List Th) : nr (vTh l) = true := nrL_flat (fun _ => rfl) l
theorem ok78 (a b : Th) : POk 78 [aTh a, aTh b] (.sc (.bool (decide (a = b)))) := by
  refine fn_ok mixed (En_ok _ _ _ _) (pl := fun _ => []) (fn := Go.Proofs.Tryz.f78) (c := _) (by kernel_rfl) rfl (by decide) (by kernel_rfl) (E := E0) ?_
  have heq : decide (a = b) = (decide (a.kind = b.kind) && decide (a.num = b.num) && decide (a.text = b.text) && decide (a.own = b.own)) := by
    cases a; cases b; simp [Bool.and_assoc]
  rw [heq]
  repeat' ((conv => whnf); first
      | split)
  all_goals (conv => whnf)
  all_goals (refine ⟨rfl, ?_⟩)
  all_goals (first | rfl | (simp_all; done) | (simp_all; omega) | skip)
def termsL (l : Lt) : List Tm := if l.kind = 3 then [l.left, l.right] else l.atom.args
theorem ok68 (l : Lt) : POk 68 [aL l] (vT (termsL l)) := by
  refine POk.of_v ?_ (nrL_flat (fun _ => rfl) _)
  refine fn_ok mixed (En_ok _ _ _ _) (pl := fun _ => []) (fn := Go.Proofs.Tryz.f68) (c := _) (by kernel_rfl) rfl (by decide) (by kernel_rfl) (E := E0) ?_
  conv => whnf
  split
  · rename_i h
    have h : decide (l.kind = 3) = true := h
    have h2 : termsL l = [l.left, l.right] := by simp at h; simp [termsL, h]
    rw [h2]
    conv => whnf
    exact avle_dm'
  · rename_i h
    have h : decide (l.kind = 3) = false := h
    have h2 : termsL l = l.atom.args := by simp at h; simp [termsL, h]
    rw [h2]
    conv => whnf
    exact avle_refl _
/-- lint.alike -/
def alikeL (a b : Lt) : Bool := decide (a.kind = b.kind) && decide (a.op = b.op) && decide (a.atom.pred = b.atom.pred) && decide ((termsL a).length = (termsL b).length)
theorem ok64 (a b : Lt) : POk 64 [aL a, aL b] (.sc (.bool (alikeL a b))) := by
  refine fn_ok mixed (En_ok _ _ _ _) (pl := fun _ => (List.range 31).map Pl.one) (fn := Go.Proofs.Tryz.f64) (c := _) (by kernel_rfl) rfl (by decide) (by kernel_rfl) (E := E0) ?_
  conv => whnf
  refine And.intro (by kernel_rfl) ?_
  repeat' ((conv => whnf); first
      | refine use_ex (ok68 a) (nr1 (nr_aL _)) ⟨rfl, ?_⟩
      | refine use_ex (ok68 b) (nr1 (nr_aL _)) ⟨rfl, ?_⟩
      | split)
  all_goals (conv => whnf)
  all_goals (refine ⟨rfl, ?_⟩)
  all_goals (first | rfl | (simp_all [alikeL]; done) | (simp_all [alikeL]; omega) | skip)
end Go.Proofs.YtjchgncgkhofhaaGreat.AL
/- The program's functions in abstract words: constants held against each other. -/
set_option linter.unusedVariables false
namespace Go.Proofs.YtjchgncgkhofhaaGreat.AL
open Go
attribute [local irreducible] PlainFn CallOk

theorem ok105 (a : Int) : POk 105 [.sc (.int .i64 a)] (.sc (.bool false)) := by
  refine fn_ok mixed (En_ok _ _ _ _) (pl := fun _ => []) (fn := Go.Proofs.Tryz.f105) (c := _) (by kernel_rfl) rfl (by decide) (by kernel_rfl) (E := E0) ?_
  conv => whnf
  refine ⟨rfl, ?_⟩
  show AV.sc (.bool (!(decide (a = a)))) = _
  simp
theorem ok106 (a : Int) : POk 106 [.sc (.int .i64 a)] (.sc (.bool false)) := by
  refine fn_ok mixed (En_ok _ _ _ _) (pl := fun _ => []) (fn := Go.Proofs.Tryz.f106) (c := _) (by kernel_rfl) rfl (by decide) (by kernel_rfl) (E := E0) ?_
  conv => whnf
  refine ⟨rfl, ?_⟩
  show AV.sc (.bool (!(decide (a = a)))) = _
  simp
theorem ok107 (a : ByteArray) : POk 107 [.sc (.string a)] (.sc (.bool false)) := by
  refine fn_ok mixed (En_ok _ _ _ _) (pl := fun _ => []) (fn := Go.Proofs.Tryz.f107) (c := _) (by kernel_rfl) rfl (by decide) (by kernel_rfl) (E := E0) ?_
  conv => whnf
  refine ⟨rfl, ?_⟩
  show AV.sc (.bool (!(decide (a = a)))) = _
  simp
def cmpI (a b : Int) : Int := if decide (a < b) then -1 else if decide (a > b) then 1 else 0
def cmpS (a b : ByteArray) : Int := if Op.bytesLess a.toList b.toList then -1 else if !(Op.bytesLess a.toList b.toList || (a.toList == b.toList)) then 1 else 0
theorem ok89 (a b : Int) : POk 89 [.sc (.int .i64 a), .sc (.int .i64 b)] (.sc (.int .i64 (cmpI a b))) := by
  refine fn_ok mixed (En_ok _ _ _ _) (pl := fun _ => []) (fn := Go.Proofs.Tryz.f89) (c := _) (by kernel_rfl) rfl (by decide) (by kernel_rfl) (E := E0) ?_
  repeat' ((conv => whnf); first
      | refine use_pure (ok105 a) rfl ⟨rfl, ?_⟩
      | refine use_pure (ok105 b) rfl ⟨rfl, ?_⟩
      | split)
  all_goals (conv => whnf)
  all_goals (refine ⟨rfl, ?_⟩)
  all_goals (first | rfl | (simp_all [cmpI]; done) | (simp_all [cmpI]; omega) | skip)
theorem ok90 (a b : Int) : POk 90 [.sc (.int .i64 a), .sc (.int .i64 b)] (.sc (.int .i64 (cmpI a b))) := by
  refine fn_ok mixed (En_ok _ _ _ _) (pl := fun _ => []) (fn := Go.Proofs.Tryz.f90) (c := _) (by kernel_rfl) rfl (by decide) (by kernel_rfl) (E := E0) ?_
  repeat' ((conv => whnf); first
      | refine use_pure (ok106 a) rfl ⟨rfl, ?_⟩
      | refine use_pure (ok106 b) rfl ⟨rfl, ?_⟩
      | split)
  all_goals (conv => whnf)
  all_goals (refine ⟨rfl, ?_⟩)
  all_goals (first | rfl | (simp_all [cmpI]; done) | (simp_all [cmpI]; omega) | skip)
theorem ok91 (a b : ByteArray) : POk 91 [.sc (.string a), .sc (.string b)] (.sc (.int .i64 (cmpS a b))) := by
  refine fn_ok mixed (En_ok _ _ _ _) (pl := fun _ => []) (fn := Go.Proofs.Tryz.f91) (c := _) (by kernel_rfl) rfl (by decide) (by kernel_rfl) (E := E0) ?_
  repeat' ((conv => whnf); first
      | refine use_pure (ok107 a) rfl ⟨rfl, ?_⟩
      | refine use_pure (ok107 b) rfl ⟨rfl, ?_⟩
      | split)
  all_goals (conv => whnf)
  all_goals (refine ⟨rfl, ?_⟩)
  · rename_i h
    have h : Op.bytesLess a.toList b.toList = true := h
    simp [cmpS, h]
  · rename_i h _ h2
    have h : Op.bytesLess a.toList b.toList = false := h
    have h2 : (!(Op.bytesLess a.toList b.toList || (a.toList == b.toList))) = true := h2
    rw [cmpS, h2, h]; rfl
  · rename_i h _ h2
    have h : Op.bytesLess a.toList b.toList = false := h
    have h2 : (!(Op.bytesLess a.toList b.toList || (a.toList == b.toList))) = false := h2
    rw [cmpS, h2, h]; rfl
def cI (a : Int) : List AV := [.sc (.int .i64 a)]
def vI (l : List Int) : AV := .vec false 1 l.length (l.flatMap cI)
theorem ok88 (l : List Int) (hl : l.length ≤ 9223372036854775807) : POk 88 [vI l] (.sc (.int .i64 (firstP id l))) := by
  refine fn_ok mixed (En_ok _ _ _ _) (pl := fun _ => []) (fn := Go.Proofs.Tryz.f88) (c := _) (by kernel_rfl) rfl (by decide) (by kernel_rfl) (E := E0) ?_
  conv => whnf
  refine ⟨{ i : Nat // firstP id l = firstP id (l.drop i) }, fun i => St [(3, .sc (.int .i64 0)), (6, vI l), (7, .sc (.int .i64 l.length)), (8, .sc (.int .i64 i.1))] [] [], fun i => l.length - i.1, ⟨0, rfl⟩, ?_, ?_⟩
  · exact wk_of ⟨avle_refl _, avle_refl _, avle_refl _, avle_refl _, trivial⟩ trivial rfl ⟨trivial, trivial, trivial, trivial, trivial⟩
  rintro ⟨i, hinv⟩
  conv => whnf
  split
  · rename_i hlt
    have hlt : i < l.length := by simpa using hlt
    have hwrap : IntKind.i64.wrap ((i : Int) + 1) = ((i + 1 : Nat) : Int) := (wrap_small _ (by omega) (by omega)).trans (by omega)
    rw [first_drop id l i hlt] at hinv
    conv => whnf
    refine ⟨⟨Int.natCast_nonneg _, Int.ofNat_lt.2 hlt⟩, _, take_cells (g := cI) (n := 1) (fun _ => rfl) l i hlt, ?_⟩
    generalize l[i] = t at hinv
    conv => whnf
    split
    · rename_i hf
      have hf : (!decide (t = 0)) = true := hf
      have hf : ¬ id t = 0 := by simpa using hf
      conv => whnf
      exact ⟨rfl, by rw [hinv, if_neg hf]; rfl⟩
    · rename_i hf
      have hf : (!decide (t = 0)) = false := hf
      have hf : id t = 0 := by simpa using hf
      rw [if_pos hf] at hinv
      conv => whnf
      exact ⟨⟨i + 1, hinv⟩, wk_of ⟨avle_refl _, avle_refl _, avle_refl _, avle_int hwrap, trivial⟩ trivial rfl ⟨trivial, trivial, trivial, trivial, trivial⟩, Nat.sub_lt_sub_left hlt (Nat.lt_succ_self i)⟩
  · rename_i hlt
    have hlt : l.length ≤ i := by simpa using hlt
    conv => whnf
    refine ⟨rfl, ?_⟩
    rw [hinv, List.drop_of_length_le hlt]; rfl
/-- sym.Compare -/
def cmpC (a b : Tm) : Int := firstP id [cmpI a.kind b.kind, cmpI a.num b.num, cmpS a.text b.text]
theorem ok73 (a b : Tm) : POk 73 [aC a, aC b] (.sc (.int .i64 (cmpC a b))) := by
  refine fn_ok mixed (En_ok _ _ _ _) (pl := fun _ => (List.range 18).map Pl.one) (fn := Go.Proofs.Tryz.f73) (c := _) (by kernel_rfl) rfl (by decide) (by kernel_rfl) (E := E0) ?_
  conv => whnf
  refine And.intro (by kernel_rfl) ?_
  repeat' ((conv => whnf); first
      | refine use_ex (ok89 a.kind b.kind) rfl ⟨rfl, ?_⟩
      | refine use_ex (ok90 a.num b.num) rfl ⟨rfl, ?_⟩
      | refine use_ex (ok91 a.text b.text) rfl ⟨rfl, ?_⟩
      | refine use_ex (ok88 [cmpI a.kind b.kind, cmpI a.num b.num, cmpS a.text b.text] (by simp)) rfl ⟨rfl, ?_⟩)
  exact ⟨rfl, rfl⟩
/-- edictref01.Bytes -/
def cmpB : List UInt8 → List UInt8 → Int
  | [], [] => 0
  | [], _ :: _ => -1
  | _ :: _, [] => 1
  | a :: x, b :: y => if a < b then -1 else if b < a then 1 else cmpB x y
theorem cmpB_S : ∀ (x y : List UInt8), cmpB x y = if Op.bytesLess x y then -1 else if !(Op.bytesLess x y || (x == y)) then 1 else 0
  | [], [] => rfl
  | [], _ :: _ => rfl
  | _ :: _, [] => rfl
  | a :: x, b :: y => by
    have ih := cmpB_S x y
    by_cases h1 : a < b
    · simp [cmpB, Op.bytesLess, h1]
    · by_cases h2 : b < a
      · have hne : a ≠ b := fun e => h1 (by subst e; exact absurd h2 h1)
        simp [cmpB, Op.bytesLess, h1, h2, hne]
      · have : a = b := UInt8.le_antisymm (UInt8.not_lt.1 h2) (UInt8.not_lt.1 h1)
        subst this
        simp only [cmpB, if_neg h1, ih, Op.bytesLess]
        simp
theorem drop_cmp {x y : ByteArray} {i : Nat} (h1 : i < x.toList.length) (h2 : i < y.toList.length) : cmpB (x.toList.drop i) (y.toList.drop i) = if x.toList[i] < y.toList[i] then -1 else if y.toList[i] < x.toList[i] then 1 else cmpB (x.toList.drop (i + 1)) (y.toList.drop (i + 1)) := by
  rw [List.drop_eq_getElem_cons h1, List.drop_eq_getElem_cons h2]; rfl
theorem size_toList (s : ByteArray) : s.toList.length = s.size := by rw [ByteArray.toList_eq]; rfl
theorem lt_nat (a b : UInt8) : ((a.toNat : Int) < (b.toNat : Int)) ↔ a < b := by rw [UInt8.lt_iff_toNat_lt]; omega
theorem ok83 (x y : ByteArray) (hx : x.size ≤ 9223372036854775807) (hy : y.size ≤ 9223372036854775807) : POk 83 [.sc (.string x), .sc (.string y)] (.sc (.int .i64 (cmpB x.toList y.toList))) := by
  refine fn_ok mixed (En_ok _ _ _ _) (pl := fun _ => (List.range 7).map Pl.one) (fn := Go.Proofs.Tryz.f83) (c := _) (by kernel_rfl) rfl (by decide) (by kernel_rfl) (E := E0) ?_
  conv => whnf
  refine ⟨{ i : Nat // cmpB x.toList y.toList = cmpB (x.toList.drop i) (y.toList.drop i) ∧ i ≤ x.size ∧ i ≤ y.size }, fun i => St [(0, .sc (.string x)), (1, .sc (.string y)), (5, .sc (.int .i64 i.1))] [] [], fun i => x.size - i.1, ⟨0, rfl, Nat.zero_le _, Nat.zero_le _⟩, ?_, ?_⟩
  · exact wk_of ⟨avle_refl _, avle_refl _, avle_refl _, trivial⟩ trivial rfl ⟨trivial, trivial, trivial, trivial⟩
  rintro ⟨i, hinv, hix, hiy⟩
  have leaf : (i = x.size ∨ i = y.size) → cmpB x.toList y.toList = if x.size < y.size then -1 else if y.size < x.size then 1 else 0 := by
    intro h
    rw [hinv]
    have e1 := size_toList x
    have e2 := size_toList y
    rcases h with h | h
    · rw [List.drop_of_length_le (by omega)]
      cases hd : y.toList.drop i with
      | nil => have := congrArg List.length hd; simp at this; rw [if_neg (by omega), if_neg (by omega)]; rfl
      | cons b r => have := congrArg List.length hd; simp at this; rw [if_pos (by omega)]; rfl
    · rw [List.drop_of_length_le (l := y.toList) (by omega)]
      cases hd : x.toList.drop i with
      | nil => have := congrArg List.length hd; simp at this; rw [if_neg (by omega), if_neg (by omega)]; rfl
      | cons b r => have := congrArg List.length hd; simp at this; rw [if_neg (by omega), if_pos (by omega)]; rfl
  have hwrap : i < x.size → IntKind.i64.wrap ((i : Int) + 1) = ((i + 1 : Nat) : Int) := fun h => (wrap_small _ (by omega) (by omega)).trans (by omega)
  have step : (h1 : i < x.size) → (h2 : i < y.size) → ∃ a b : UInt8, x[(i : Int).toNat]? = some a ∧ y[(i : Int).toNat]? = some b ∧ cmpB x.toList y.toList = if a < b then -1 else if b < a then 1 else cmpB (x.toList.drop (i + 1)) (y.toList.drop (i + 1)) := by
    intro h1 h2
    have h1' : i < x.toList.length := by rw [size_toList]; exact h1
    have h2' : i < y.toList.length := by rw [size_toList]; exact h2
    exact ⟨_, _, get_byte h1', get_byte h2', hinv.trans (drop_cmp h1' h2')⟩
  have tailc : ¬ (i < x.size ∧ i < y.size) → (i = x.size ∨ i = y.size) := fun h => by omega
  conv => whnf
  split
  · rename_i h1
    have h1 : i < x.size := by simpa using h1
    conv => whnf
    split
    · rename_i h2
      have h2 : i < y.size := by simpa using h2
      obtain ⟨a, b, ha, hb, hc⟩ := step h1 h2
      conv => whnf
      refine And.intro (by kernel_rfl) ?_
      conv => whnf
      refine ⟨⟨Int.natCast_nonneg _, Int.ofNat_lt.2 h1⟩, a, ha, ?_⟩
      conv => whnf
      refine ⟨⟨Int.natCast_nonneg _, Int.ofNat_lt.2 h2⟩, b, hb, ?_⟩
      conv => whnf
      split
      · rename_i h
        have h : decide ((a.toNat : Int) < (b.toNat : Int)) = true := h
        have h : a < b := (lt_nat a b).1 (of_decide_eq_true h)
        conv => whnf
        exact ⟨rfl, by rw [hc, if_pos h]⟩
      rename_i h
      have h : decide ((a.toNat : Int) < (b.toNat : Int)) = false := h
      have hn : ¬ a < b := fun e => of_decide_eq_false h ((lt_nat a b).2 e)
      conv => whnf
      refine And.intro (by kernel_rfl) ?_
      conv => whnf
      refine ⟨⟨Int.natCast_nonneg _, Int.ofNat_lt.2 h1⟩, a, ha, ?_⟩
      conv => whnf
      refine ⟨⟨Int.natCast_nonneg _, Int.ofNat_lt.2 h2⟩, b, hb, ?_⟩
      conv => whnf
      split
      · rename_i h
        have h : decide ((a.toNat : Int) > (b.toNat : Int)) = true := h
        have h : b < a := (lt_nat b a).1 (of_decide_eq_true h)
        conv => whnf
        exact ⟨rfl, by rw [hc, if_neg hn, if_pos h]⟩
      rename_i h
      have h : decide ((a.toNat : Int) > (b.toNat : Int)) = false := h
      have hm : ¬ b < a := fun e => of_decide_eq_false h ((lt_nat b a).2 e)
      rw [if_neg hn, if_neg hm] at hc
      conv => whnf
      exact ⟨⟨i + 1, hc, by omega, by omega⟩, wk_of ⟨avle_refl _, avle_refl _, avle_int (hwrap h1), trivial⟩ trivial rfl ⟨trivial, trivial, trivial, trivial⟩, Nat.sub_lt_sub_left h1 (Nat.lt_succ_self i)⟩
    · rename_i h2
      have h2 : ¬ i < y.size := by simpa using h2
      have hl := leaf (tailc fun h => h2 h.2)
      conv => whnf
      split
      · rename_i h
        have h : x.size < y.size := by simpa using h
        conv => whnf
        exact ⟨rfl, by rw [hl, if_pos h]⟩
      rename_i h
      have hn : ¬ x.size < y.size := by simpa using h
      conv => whnf
      split
      · rename_i h
        have h : y.size < x.size := by simpa using h
        conv => whnf
        exact ⟨rfl, by rw [hl, if_neg hn, if_pos h]⟩
      rename_i h
      have h : ¬ y.size < x.size := by simpa using h
      conv => whnf
      exact ⟨rfl, by rw [hl, if_neg hn, if_neg h]⟩
  · rename_i h1
    have h1 : ¬ i < x.size := by simpa using h1
    have hl := leaf (tailc fun h => h1 h.1)
    conv => whnf
    split
    · rename_i h
      have h : x.size < y.size := by simpa using h
      conv => whnf
      exact ⟨rfl, by rw [hl, if_pos h]⟩
    rename_i h
    have hn : ¬ x.size < y.size := by simpa using h
    conv => whnf
    split
    · rename_i h
      have h : y.size < x.size := by simpa using h
      conv => whnf
      exact ⟨rfl, by rw [hl, if_neg hn, if_pos h]⟩
    rename_i h
    have h : ¬ y.size < x.size := by simpa using h
    conv => whnf
    exact ⟨rfl, by rw [hl, if_neg hn, if_neg h]⟩
end Go.Proofs.YtjchgncgkhofhaaGreat.AL
/- The program's functions in abstract words: tests whose outcome can be seen. -/
set_option linter.unusedVariables false
namespace Go.Proofs.YtjchgncgkhofhaaGreat.AL
open Go
attribute [local irreducible] PlainFn CallOk

theorem name_size {s : ByteArray} (h : nameP s = true) : s.size ≤ 64 := by
  simp [nameP] at h; omega
theorem valid_size {t : Tm} (h : validP t = true) : t.text.size ≤ 9223372036854775807 := by
  unfold validP at h
  split at h
  · rw [of_decide_eq_true h]; decide
  split at h
  · simp only [Bool.and_eq_true] at h; have := name_size h.2; omega
  split at h
  · simp only [Bool.and_eq_true, decide_eq_true_eq] at h; omega
  · cases h
theorem cmpC_eq (a b : Tm) : cmpC a b = if a.kind ≠ b.kind then (if a.kind < b.kind then -1 else 1) else if a.num ≠ b.num then (if a.num < b.num then -1 else 1) else cmpB a.text.toList b.text.toList := by
  rw [cmpB_S]
  show firstP id [cmpI a.kind b.kind, cmpI a.num b.num, cmpS a.text b.text] = _
  by_cases h1 : a.kind = b.kind
  · by_cases h2 : a.num = b.num
    · simp only [h1, h2, ne_eq, not_true_eq_false, if_false]
      simp [firstP, cmpI, cmpS]
      intro h
      split <;> simp_all
    · rcases Int.lt_or_gt_of_ne h2 with h | h
      · simp [h1, firstP, cmpI, h2, h]
      · have : ¬ a.num < b.num := by omega
        simp [h1, firstP, cmpI, h2, this, h]
  · rcases Int.lt_or_gt_of_ne h1 with h | h
    · simp [h1, firstP, cmpI, h]
    · have : ¬ a.kind < b.kind := by omega
      simp [h1, firstP, cmpI, this, h]
theorem ok59 (a b : Tm) (hx : a.text.size ≤ 9223372036854775807) (hy : b.text.size ≤ 9223372036854775807) : POk 59 [aC a, aC b] (.sc (.int .i64 (cmpC a b))) := by
  refine fn_ok mixed (En_ok _ _ _ _) (pl := fun _ => []) (fn := Go.Proofs.Tryz.f59) (c := _) (by kernel_rfl) rfl (by decide) (by kernel_rfl) (E := E0) ?_
  have hc := cmpC_eq a b
  repeat' ((conv => whnf); first
      | refine use_pure (ok83 a.text b.text hx hy) rfl ⟨rfl, ?_⟩
      | split)
  all_goals (conv => whnf)
  all_goals (refine ⟨rfl, ?_⟩)
  all_goals (first | (simp_all; done) | (simp_all; omega) | skip)
/-- match.Compare and edictref06.Compare -/
def opHolds (op c : Int) : Bool := if op = 1 then decide (c = 0) else if op = 2 then !decide (c = 0) else if op = 3 then decide (c < 0) else if op = 4 then decide (c ≤ 0) else if op = 5 then decide (c > 0) else decide (c ≥ 0)
def cmpP (op : Int) (a b : Tm) : Bool × Int := if op < 1 ∨ 6 < op then (false, 2) else if validP a = false ∨ validP b = false then (false, 5) else (opHolds op (cmpC a b), 0)
theorem ok36 (op : Int) (a b : Tm) : POk 36 [.sc (.int .i64 op), aC a, aC b] (.tup [.sc (.bool (cmpP op a b).1), .sc (.int .i64 (cmpP op a b).2)]) := by
  refine fn_ok mixed (En_ok _ _ _ _) (pl := fun _ => []) (fn := Go.Proofs.Tryz.f36) (c := _) (by kernel_rfl) rfl (by decide) (by kernel_rfl) (E := E0) ?_
  have hx : validP a = true → a.text.size ≤ 9223372036854775807 := valid_size
  have hy : validP b = true → b.text.size ≤ 9223372036854775807 := valid_size
  repeat' ((conv => whnf); first
      | refine use_pure (ok58 a) rfl ⟨rfl, ?_⟩
      | refine use_pure (ok58 b) rfl ⟨rfl, ?_⟩
      | refine use_pure (ok59 a b (hx (by simp_all)) (hy (by simp_all))) rfl ⟨rfl, ?_⟩
      | split)
  all_goals (conv => whnf)
  all_goals (refine ⟨rfl, ?_⟩)
  all_goals (clear hx hy)
  all_goals (first | (simp_all [cmpP]; done) | skip)
  all_goals (have hop : ¬ (op < 1 ∨ 6 < op) := by (simp only [decide_eq_false_iff_not] at *; omega))
  all_goals (rw [cmpP, if_neg hop])
  all_goals (simp_all [opHolds])
theorem ok50 (op : Int) (a b : Tm) : POk 50 [.sc (.int .i64 op), aC a, aC b] (.tup [.sc (.bool (cmpP op a b).1), .sc (.int .i64 (cmpP op a b).2)]) := by
  refine fn_ok mixed (En_ok _ _ _ _) (pl := fun _ => []) (fn := Go.Proofs.Tryz.f50) (c := _) (by kernel_rfl) rfl (by decide) (by kernel_rfl) (E := E0) ?_
  repeat' ((conv => whnf); first
      | refine use_pure (ok72 a) rfl ⟨rfl, ?_⟩
      | refine use_pure (ok72 b) rfl ⟨rfl, ?_⟩
      | refine use_pure (ok73 a b) rfl ⟨rfl, ?_⟩
      | split)
  all_goals (conv => whnf)
  all_goals (refine ⟨rfl, ?_⟩)
  all_goals (first | (simp_all [cmpP]; done) | skip)
  all_goals (have hop : ¬ (op < 1 ∨ 6 < op) := by (simp only [decide_eq_false_iff_not] at *; omega))
  all_goals (rw [cmpP, if_neg hop])
  all_goals (simp_all [opHolds])
/-- edictref18.sides -/
def sidesP (l : Lt) : Bool × Bool := if l.left.kind = 4 ∧ l.right.kind = 4 then (decide (l.left.text = l.right.text) && !decide (l.left.text = usB), false) else (false, !decide (l.left.kind = 4) && !decide (l.right.kind = 4))
theorem ok35 (l : Lt) : POk 35 [aL l] (.tup [.sc (.bool (sidesP l).1), .sc (.bool (sidesP l).2)]) := by
  refine fn_ok mixed (En_ok _ _ _ _) (pl := fun _ => (List.range 10).map Pl.one) (fn := Go.Proofs.Tryz.f35) (c := _) (by kernel_rfl) rfl (by decide) (by kernel_rfl) (E := E0) ?_
  have hk : ∀ (Q R : Prop), Q → R → Q ∧ R := fun _ _ => And.intro
  conv => whnf
  split
  · rename_i h1
    have h1 : decide (l.left.kind = 4) = true := h1
    conv => whnf
    split
    · rename_i h2
      have h2 : decide (l.right.kind = 4) = true := h2
      conv => whnf
      split
      · rename_i h3
        have h3 : decide (l.left.text = l.right.text) = true := h3
        conv => whnf
        refine ⟨rfl, ?_⟩
        simp only [decide_eq_true_eq] at h1 h2
        simp only [sidesP, h1, h2, and_self, if_true, h3]
        rfl
      · rename_i h3
        have h3 : decide (l.left.text = l.right.text) = false := h3
        conv => whnf
        refine ⟨rfl, ?_⟩
        simp only [decide_eq_true_eq] at h1 h2
        simp only [sidesP, h1, h2, and_self, if_true, h3]
        rfl
    · rename_i h2
      have h2 : decide (l.right.kind = 4) = false := h2
      conv => whnf
      refine And.intro (by kernel_rfl) ?_
      conv => whnf
      split
      · rename_i h3
        have h3 : (!decide (l.left.kind = 4)) = true := h3
        rw [h1] at h3; cases h3
      conv => whnf
      refine ⟨rfl, ?_⟩
      simp only [decide_eq_false_iff_not] at h2
      simp [sidesP, h1, h2]
  · rename_i h1
    have h1 : decide (l.left.kind = 4) = false := h1
    conv => whnf
    refine And.intro (by kernel_rfl) ?_
    conv => whnf
    split
    · rename_i h3
      conv => whnf
      refine ⟨rfl, ?_⟩
      simp only [decide_eq_false_iff_not] at h1
      simp [sidesP, h1]
    · rename_i h3
      have h3 : (!decide (l.left.kind = 4)) = false := h3
      rw [h1] at h3; cases h3
def idleOp (op : Int) : Bool := decide (op = 1) || decide (op = 4) || decide (op = 6)
/-- edictref18.verdict -/
def verdP (l : Lt) : Int := if l.kind = 3 then (if (sidesP l).1 = true then (if idleOp l.op = true then 1 else -1) else if (sidesP l).2 = true then (if (cmpP l.op l.left l.right).1 = true then 1 else -1) else 0) else 0
theorem ok17 (l : Lt) : POk 17 [aL l] (.sc (.int .i64 (verdP l))) := by
  refine fn_ok mixed (En_ok _ _ _ _) (pl := fun _ => []) (fn := Go.Proofs.Tryz.f17) (c := _) (by kernel_rfl) rfl (by decide) (by kernel_rfl) (E := E0) ?_
  repeat' ((conv => whnf); first
      | refine use_pure (ok35 l) (nr1 (nr_aL _)) ⟨rfl, ?_⟩
      | refine use_pure (ok36 l.op l.left l.right) rfl ⟨rfl, ?_⟩
      | split)
  all_goals (conv => whnf)
  all_goals (refine ⟨rfl, ?_⟩)
  all_goals (first | rfl | (simp_all [verdP, idleOp]; done) | (simp_all [verdP, idleOp]; omega) | skip)
/-- lint.compared -/
def cmpdP (l : Lt) : Bool × Bool := if l.kind = 3 then (if (sameT l.left l.right && isVar l.left) = true then (idleOp l.op, !idleOp l.op) else if (isVar l.left || isVar l.right) = true then (false, false) else ((cmpP l.op l.left l.right).1, !(cmpP l.op l.left l.right).1)) else (false, false)
theorem ok23 (l : Lt) : POk 23 [aL l] (.tup [.sc (.bool (cmpdP l).1), .sc (.bool (cmpdP l).2)]) := by
  refine fn_ok mixed (En_ok _ _ _ _) (pl := fun _ => (List.range 14).map Pl.one) (fn := Go.Proofs.Tryz.f23) (c := _) (by kernel_rfl) rfl (by decide) (by kernel_rfl) (E := E0) ?_
  repeat' ((conv => whnf); first
      | refine use_pure (ok47 l.left l.right) rfl ⟨rfl, ?_⟩
      | refine use_pure (ok49 l.left) rfl ⟨rfl, ?_⟩
      | refine use_pure (ok49 l.right) rfl ⟨rfl, ?_⟩
      | refine use_ex (ok51 l.left) rfl ⟨rfl, ?_⟩
      | refine use_ex (ok51 l.right) rfl ⟨rfl, ?_⟩
      | refine use_ex (ok50 l.op l.left l.right) rfl ⟨rfl, ?_⟩
      | refine And.intro (by kernel_rfl) ?_
      | split)
  all_goals (first | (simp_all [cmpdP, idleOp]; done) | (simp_all [cmpdP, idleOp]; omega) | skip)
end Go.Proofs.YtjchgncgkhofhaaGreat.AL
/- The program's functions in abstract words: literals that cannot hold together (edictref18). -/
set_option linter.unusedVariables false
namespace Go.Proofs.YtjchgncgkhofhaaGreat.AL
open Go
attribute [local irreducible] PlainFn CallOk

def allZ {α β : Type} (f : α → β → Bool) : List α → List β → Bool
  | x :: xs, y :: ys => f x y && allZ f xs ys
  | _, _ => true
theorem allZ_drop {α β : Type} (f : α → β → Bool) (xs : List α) (ys : List β) (i : Nat) (h1 : i < xs.length) (h2 : i < ys.length) : allZ f (xs.drop i) (ys.drop i) = (f xs[i] ys[i] && allZ f (xs.drop (i + 1)) (ys.drop (i + 1))) := by
  rw [List.drop_eq_getElem_cons h1, List.drop_eq_getElem_cons h2]; rfl
def eqF {α β : Type} (f : α → β → Bool) (xs : List α) (ys : List β) : Bool := decide (xs.length = ys.length) && allZ f xs ys
def hitP (l m : Lt) : Bool := decide (m.kind = 1) && decide (m.atom.pred = l.atom.pred) && eqF sameT m.atom.args l.atom.args
/-- edictref18.refuted -/
def refP (ls : List Lt) (l : Lt) : Bool := decide (l.kind = 2) && ls.any (hitP l)
theorem any_drop {α : Type} (f : α → Bool) (l : List α) (i : Nat) (h : i < l.length) : (l.drop i).any f = (f l[i] || (l.drop (i + 1)).any f) := by
  rw [List.drop_eq_getElem_cons h]; rfl
theorem ok33 (ls : List Lt) (l : Lt) (hls : ls.length ≤ 9223372036854775807) (hb : ∀ m ∈ ls, m.atom.args.length ≤ 9223372036854775807) : POk 33 [vL ls, aL l] (.sc (.bool (refP ls l))) := by
  refine fn_ok mixed (En_ok _ _ _ _) (pl := fun _ => []) (fn := Go.Proofs.Tryz.f33) (c := _) (by kernel_rfl) rfl (by decide) (by kernel_rfl) (E := E0) ?_
  conv => whnf
  split
  · rename_i h
    have h : (!decide (l.kind = 2)) = true := h
    conv => whnf
    exact ⟨rfl, by simp at h; simp [refP, h]⟩
  rename_i h
  have h : (!decide (l.kind = 2)) = false := h
  have hr : refP ls l = ls.any (hitP l) := by simp at h; simp [refP, h]
  conv => whnf
  refine ⟨{ i : Nat // ls.any (hitP l) = (ls.drop i).any (hitP l) }, fun i => St [(0, vL ls), (3, .pp (.loc 3) 0), (5, .sc (.int .i64 i.1))] [(3, .cells 0 (cL l))] [], fun i => ls.length - i.1, ⟨0, rfl⟩, ?_, ?_⟩
  · exact wk_of ⟨avle_refl _, avle_refl _, avle_refl _, trivial⟩ ⟨oble_refl _, trivial⟩ rfl ⟨trivial, trivial, trivial, trivial⟩
  rintro ⟨i, hinv⟩
  conv => whnf
  split
  · rename_i hlt
    have hlt : i < ls.length := by simpa using hlt
    have hwrap : IntKind.i64.wrap ((i : Int) + 1) = ((i + 1 : Nat) : Int) := (wrap_small _ (by omega) (by omega)).trans (by omega)
    rw [any_drop _ ls i hlt] at hinv
    have hmem : ls[i] ∈ ls := List.getElem_mem hlt
    have htk := take_cells (g := cL) (n := 14) (fun _ => rfl) ls i hlt
    have hir : (0 : Int) ≤ (i : Int) ∧ (i : Int) < ls.length := ⟨Int.natCast_nonneg _, Int.ofNat_lt.2 hlt⟩
    generalize ls[i] = m at hinv hmem htk
    have hml := hb m hmem
    have next : hitP l m = false → ls.any (hitP l) = (ls.drop (i + 1)).any (hitP l) := fun e => by rw [hinv, e]; rfl
    conv => whnf
    refine ⟨hir, _, htk, ?_⟩
    conv => whnf
    refine ⟨hir, _, htk, ?_⟩
    conv => whnf
    split
    · rename_i h1
      have h1 : (!decide (m.kind = 1)) = true := h1
      have hn := next (by simp at h1; simp [hitP, h1])
      conv => whnf
      exact ⟨⟨i + 1, hn⟩, wk_of ⟨avle_refl _, avle_refl _, avle_int hwrap, trivial⟩ ⟨oble_refl _, trivial⟩ rfl ⟨trivial, trivial, trivial, trivial⟩, Nat.sub_lt_sub_left hlt (Nat.lt_succ_self i)⟩
    rename_i h1
    have h1 : (!decide (m.kind = 1)) = false := h1
    simp only [Bool.not_eq_false', decide_eq_true_eq] at h1
    conv => whnf
    split
    · rename_i h2
      have h2 : (!decide (m.atom.pred = l.atom.pred)) = true := h2
      have hn := next (by simp at h2; simp [hitP, h2])
      conv => whnf
      exact ⟨⟨i + 1, hn⟩, wk_of ⟨avle_refl _, avle_refl _, avle_int hwrap, trivial⟩ ⟨oble_refl _, trivial⟩ rfl ⟨trivial, trivial, trivial, trivial⟩, Nat.sub_lt_sub_left hlt (Nat.lt_succ_self i)⟩
    rename_i h2
    have h2 : (!decide (m.atom.pred = l.atom.pred)) = false := h2
    simp only [Bool.not_eq_false', decide_eq_true_eq] at h2
    conv => whnf
    split
    · rename_i h3
      have h3 : (!decide ((m.atom.args.length : Int) = l.atom.args.length)) = true := h3
      have hn := next (by simp at h3; have : ¬ (m.atom.args.length = l.atom.args.length) := by omega
                          simp [hitP, eqF, this])
      conv => whnf
      exact ⟨⟨i + 1, hn⟩, wk_of ⟨avle_refl _, avle_refl _, avle_int hwrap, trivial⟩ ⟨oble_refl _, trivial⟩ rfl ⟨trivial, trivial, trivial, trivial⟩, Nat.sub_lt_sub_left hlt (Nat.lt_succ_self i)⟩
    rename_i h3
    have h3 : (!decide ((m.atom.args.length : Int) = l.atom.args.length)) = false := h3
    have h3 : m.atom.args.length = l.atom.args.length := by simp at h3; omega
    have hhit : hitP l m = allZ sameT m.atom.args l.atom.args := by simp [hitP, eqF, h1, h2, h3]
    conv => whnf
    refine ⟨{ q : Bool × Nat // allZ sameT m.atom.args l.atom.args = (q.1 && allZ sameT (m.atom.args.drop q.2) (l.atom.args.drop q.2)) }, fun q => St [(0, vL ls), (3, .pp (.loc 3) 0), (5, .sc (.int .i64 i)), (6, .pp (.loc 6) 0), (7, .sc (.bool q.1.1)), (8, .sc (.int .i64 q.1.2))] [(3, .cells 0 (cL l)), (6, .cells 0 (cA m.atom))] [], fun q => m.atom.args.length - q.1.2, ⟨(true, 0), rfl⟩, ?_, ?_⟩
    · exact wk_of ⟨avle_refl _, avle_refl _, avle_refl _, avle_refl _, avle_refl _, avle_refl _, trivial⟩ ⟨oble_refl _, oble_refl _, trivial⟩ rfl ⟨trivial, trivial, trivial, trivial, trivial, trivial, trivial⟩
    rintro ⟨⟨b, j⟩, hj⟩
    simp only at hj
    conv => whnf
    split
    · rename_i hlt2
      have hlt2 : j < m.atom.args.length := by simpa using hlt2
      have hlt3 : j < l.atom.args.length := by omega
      have hwrap2 : IntKind.i64.wrap ((j : Int) + 1) = ((j + 1 : Nat) : Int) := (wrap_small _ (by omega) (by omega)).trans (by omega)
      rw [allZ_drop _ _ _ _ hlt2 hlt3] at hj
      conv => whnf
      refine ⟨⟨Int.natCast_nonneg _, Int.ofNat_lt.2 hlt2⟩, _, take_cells (g := cT) (n := 4) (fun _ => rfl) m.atom.args j hlt2, ?_⟩
      generalize m.atom.args[j] = s at hj
      conv => whnf
      refine ⟨⟨Int.natCast_nonneg _, Int.ofNat_lt.2 hlt3⟩, _, take_cells (g := cT) (n := 4) (fun _ => rfl) l.atom.args j hlt3, ?_⟩
      generalize l.atom.args[j] = t at hj
      have fin : ∀ b', b' = (b && sameT s t) → allZ sameT m.atom.args l.atom.args = (b' && allZ sameT (m.atom.args.drop (j + 1)) (l.atom.args.drop (j + 1))) := by
        intro b' e; rw [hj, e, Bool.and_assoc]
      repeat' ((conv => whnf); split)
      all_goals (conv => whnf)
      all_goals (refine ⟨⟨(_, j + 1), fin _ ?_⟩, wk_of ⟨avle_refl _, avle_refl _, avle_refl _, avle_refl _, avle_refl _, avle_int hwrap2, trivial⟩ ⟨oble_refl _, oble_refl _, trivial⟩ rfl ⟨trivial, trivial, trivial, trivial, trivial, trivial, trivial⟩, Nat.sub_lt_sub_left hlt2 (Nat.lt_succ_self j)⟩)
      all_goals (clear fin hj htk hinv hir hhit next)
      all_goals (first | (simp_all [sameT, anon, isVar, usB]; done) | (
        rename_i e1 _ e2 _ e3 _ e4 _ e5
        have e1 : b = true := e1
        show (!decide (s.text = usB)) = _
        simp [sameT, anon, isVar, e1, e2, e3, e4, e5]; done) | skip)
    · rename_i hlt2
      have hlt2 : m.atom.args.length ≤ j := by simpa using hlt2
      rw [List.drop_of_length_le hlt2, List.drop_of_length_le (by omega)] at hj
      simp only [allZ, Bool.and_true] at hj
      conv => whnf
      split
      · rename_i e
        have e : b = true := e
        conv => whnf
        refine ⟨rfl, ?_⟩
        rw [hr, hinv, hhit, hj, e]; rfl
      · rename_i e
        have e : b = false := e
        have hn := next (by rw [hhit, hj, e])
        conv => whnf
        exact ⟨⟨i + 1, hn⟩, wk_of ⟨avle_refl _, avle_refl _, avle_int hwrap, trivial⟩ ⟨oble_refl _, trivial⟩ rfl ⟨trivial, trivial, trivial, trivial⟩, Nat.sub_lt_sub_left hlt (Nat.lt_succ_self i)⟩
  · rename_i hlt
    have hlt : ls.length ≤ i := by simpa using hlt
    conv => whnf
    refine ⟨rfl, ?_⟩
    rw [hr, hinv, List.drop_of_length_le hlt]; rfl
end Go.Proofs.YtjchgncgkhofhaaGreat.AL
/- The program's functions in abstract words: the first literal at fault. -/
set_option linter.unusedVariables false
namespace Go.Proofs.YtjchgncgkhofhaaGreat.AL
open Go
attribute [local irreducible] PlainFn CallOk

theorem avi {a b : Int} (h : a = b) : AV.sc (.int .i64 a) = AV.sc (.int .i64 b) := by rw [h]
theorem avb {a b : Bool} (h : a = b) : AV.sc (.bool a) = AV.sc (.bool b) := by rw [h]
def idxP {α : Type} (f : α → Bool) : List α → Nat → Int
  | [], _ => -1
  | x :: l, i => if f x = true then (i : Int) else idxP f l (i + 1)
theorem idx_drop {α : Type} (f : α → Bool) (l : List α) (i : Nat) (h : i < l.length) : idxP f (l.drop i) i = if f l[i] = true then (i : Int) else idxP f (l.drop (i + 1)) (i + 1) := by
  rw [List.drop_eq_getElem_cons h]; rfl
def faultR (ls : List Lt) (l : Lt) : Bool := decide (verdP l < 0) || refP ls l
theorem ok15 (c : Cl) (hls : c.body.length ≤ 9223372036854775807) (hb : ∀ m ∈ c.body, m.atom.args.length ≤ 9223372036854775807) : POk 15 [aCl c] (.sc (.int .i64 (idxP (faultR c.body) c.body 0))) := by
  refine fn_ok mixed (En_ok _ _ _ _) (pl := fun _ => (List.range 17).map Pl.one) (fn := Go.Proofs.Tryz.f15) (c := _) (by kernel_rfl) rfl (by decide) (by kernel_rfl) (E := E0) ?_
  conv => whnf
  refine ⟨{ i : Nat // idxP (faultR c.body) c.body 0 = idxP (faultR c.body) (c.body.drop i) i }, fun i => St [(1, .pp (.loc 1) 0), (3, .sc (.int .i64 i.1))] [(1, .cells 0 (cC c))] [], fun i => c.body.length - i.1, ⟨0, rfl⟩, ?_, ?_⟩
  · exact wk_of ⟨avle_refl _, avle_refl _, trivial⟩ ⟨oble_refl _, trivial⟩ rfl ⟨trivial, trivial, trivial⟩
  rintro ⟨i, hinv⟩
  conv => whnf
  split
  · rename_i hlt
    have hlt : i < c.body.length := by simpa using hlt
    have hwrap : IntKind.i64.wrap ((i : Int) + 1) = ((i + 1 : Nat) : Int) := (wrap_small _ (by omega) (by omega)).trans (by omega)
    rw [idx_drop _ c.body i hlt] at hinv
    have htk := take_cells (g := cL) (n := 14) (fun _ => rfl) c.body i hlt
    have hir : (0 : Int) ≤ (i : Int) ∧ (i : Int) < c.body.length := ⟨Int.natCast_nonneg _, Int.ofNat_lt.2 hlt⟩
    generalize c.body[i] = m at hinv htk
    have next : faultR c.body m = false → idxP (faultR c.body) c.body 0 = idxP (faultR c.body) (c.body.drop (i + 1)) (i + 1) := fun e => by rw [hinv, if_neg (by rw [e]; decide)]
    have stop : faultR c.body m = true → idxP (faultR c.body) c.body 0 = i := fun e => by rw [hinv, if_pos e]
    conv => whnf
    refine And.intro (by kernel_rfl) ?_
    conv => whnf
    refine ⟨hir, _, htk, ?_⟩
    conv => whnf
    refine use_ex (ok17 m) (nr1 (nr_aL _)) ⟨rfl, ?_⟩
    conv => whnf
    split
    · rename_i e
      have e : decide (verdP m < 0) = true := e
      conv => whnf
      exact ⟨rfl, avi (stop (by simp [faultR, e])).symm⟩
    rename_i e
    have e : decide (verdP m < 0) = false := e
    conv => whnf
    refine ⟨hir, _, htk, ?_⟩
    conv => whnf
    refine use_ex (ok33 c.body m hls hb) (nr2 (nr_vL _) (nr_aL _)) ⟨rfl, ?_⟩
    conv => whnf
    split
    · rename_i e2
      have e2 : refP c.body m = true := e2
      conv => whnf
      exact ⟨rfl, avi (stop (by simp [faultR, e2])).symm⟩
    rename_i e2
    have e2 : refP c.body m = false := e2
    have hn := next (by simp only [faultR, e, e2]; rfl)
    conv => whnf
    exact ⟨⟨i + 1, hn⟩, wk_of ⟨avle_refl _, avle_int hwrap, trivial⟩ ⟨oble_refl _, trivial⟩ rfl ⟨trivial, trivial, trivial⟩, Nat.sub_lt_sub_left hlt (Nat.lt_succ_self i)⟩
  · rename_i hlt
    have hlt : c.body.length ≤ i := by simpa using hlt
    conv => whnf
    refine ⟨rfl, ?_⟩
    rw [hinv, List.drop_of_length_le hlt]; rfl

theorem use_c {g : FuncId} {args : List AV} {gs : List AObj} {Q K : AV → List AObj → Prop} (h : PlainFn prg g ∧ CallOk prg g args gs Q) (hk : ∀ v gs', Q v gs' → K v gs') : PlainFn prg g ∧ CallOk prg g args gs K := ⟨h.1, h.2.mono hk⟩
/-- The evaluation where calls may change shared objects. -/
noncomputable abbrev E1 (esc : Nat → Bool) (ro : Nat → Bool) : Env := En esc (fun _ => false) (fun _ => false) ro
theorem ok42 (ls : List Lt) (hls : ls.length ≤ 9223372036854775807) (g : Nat) (k : Nat) (f : Lt → Bool) (Inv : List AObj → Prop)
    (hg : ∀ t ∈ ls, ∀ gs, Inv gs → PlainFn prg g ∧ CallOk prg g [aL t, .pp (.obj k) 0] gs fun v gs' => Inv gs' ∧ v = .sc (.bool (f t))) (gs : List AObj) (hgs : Inv gs) :
    PlainFn prg 42 ∧ CallOk prg 42 [vL ls, .fn (.func g) [] [.pp (.obj k) 0]] gs fun v gs' => Inv gs' ∧ v = .sc (.int .i64 (idxP f ls 0)) := by
  refine fn_ok mixed (En_ok _ _ _ _) (pl := fun _ => []) (fn := Go.Proofs.Tryz.f42) (c := _) (by kernel_rfl) rfl (by decide) (by kernel_rfl) (E := E1 (fun _ => false) (fun _ => false)) ?_
  conv => whnf
  refine ⟨{ p : Nat × List AObj // Inv p.2 ∧ idxP f ls 0 = idxP f (ls.drop p.1) p.1 }, fun p => St [(0, vL ls), (1, .fn (.func g) [] [.pp (.obj k) 0]), (6, vL ls), (7, .sc (.int .i64 ls.length)), (8, .sc (.int .i64 p.1.1))] [] p.1.2, fun p => ls.length - p.1.1, ⟨(0, gs), hgs, rfl⟩, ?_, ?_⟩
  · exact wk_of ⟨avle_refl _, avle_refl _, avle_refl _, avle_refl _, avle_refl _, trivial⟩ trivial rfl ⟨trivial, trivial, trivial, trivial, trivial, trivial⟩
  rintro ⟨⟨i, gs⟩, hI, hinv⟩
  simp only at hI hinv
  conv => whnf
  split
  · rename_i hlt
    have hlt : i < ls.length := by simpa using hlt
    have hwrap : IntKind.i64.wrap ((i : Int) + 1) = ((i + 1 : Nat) : Int) := (wrap_small _ (by omega) (by omega)).trans (by omega)
    rw [idx_drop _ ls i hlt] at hinv
    have htk := take_cells (g := cL) (n := 14) (fun _ => rfl) ls i hlt
    have hir : (0 : Int) ≤ (i : Int) ∧ (i : Int) < ls.length := ⟨Int.natCast_nonneg _, Int.ofNat_lt.2 hlt⟩
    have hmem : ls[i] ∈ ls := List.getElem_mem hlt
    generalize ls[i] = m at hinv htk hmem
    conv => whnf
    refine ⟨hir, _, htk, ?_⟩
    conv => whnf
    refine use_c (hg m hmem gs hI) ?_
    rintro v gs' ⟨hI', rfl⟩
    conv => whnf
    split
    · rename_i e
      have e : f m = true := e
      conv => whnf
      exact ⟨hI', avi (hinv.trans (if_pos e)).symm⟩
    rename_i e
    have e : f m = false := e
    rw [if_neg (by rw [e]; decide)] at hinv
    conv => whnf
    exact ⟨⟨(i + 1, gs'), hI', hinv⟩, wk_of ⟨avle_refl _, avle_refl _, avle_refl _, avle_refl _, avle_int hwrap, trivial⟩ trivial rfl ⟨trivial, trivial, trivial, trivial, trivial, trivial⟩, Nat.sub_lt_sub_left hlt (Nat.lt_succ_self i)⟩
  · rename_i hlt
    have hlt : ls.length ≤ i := by simpa using hlt
    conv => whnf
    refine ⟨hI, ?_⟩
    rw [hinv, List.drop_of_length_le hlt]; rfl
theorem idx_any {α : Type} (f : α → Bool) : ∀ (l : List α) (i : Nat), decide (idxP f l i ≥ 0) = l.any f
  | [], _ => rfl
  | x :: l, i => by
    simp only [idxP, List.any_cons]
    split
    · rename_i h; simp [h]
    · rename_i h; rw [idx_any f l (i + 1)]; simp at h; simp [h]
theorem ok44 (ls : List Lt) (hls : ls.length ≤ 9223372036854775807) (g : Nat) (k : Nat) (f : Lt → Bool) (Inv : List AObj → Prop)
    (hg : ∀ t ∈ ls, ∀ gs, Inv gs → PlainFn prg g ∧ CallOk prg g [aL t, .pp (.obj k) 0] gs fun v gs' => Inv gs' ∧ v = .sc (.bool (f t))) (gs : List AObj) (hgs : Inv gs) :
    PlainFn prg 44 ∧ CallOk prg 44 [vL ls, .fn (.func g) [] [.pp (.obj k) 0]] gs fun v gs' => Inv gs' ∧ v = .sc (.bool (ls.any f)) := by
  refine fn_ok mixed (En_ok _ _ _ _) (pl := fun _ => []) (fn := Go.Proofs.Tryz.f44) (c := _) (by kernel_rfl) rfl (by decide) (by kernel_rfl) (E := E1 (fun _ => false) (fun _ => false)) ?_
  conv => whnf
  refine use_c (ok42 ls hls g k f Inv hg gs hgs) ?_
  rintro v gs' ⟨hI', rfl⟩
  conv => whnf
  refine ⟨hI', ?_⟩
  rw [← idx_any f ls 0]
theorem ok46 (xs ys : List Tm) (hl : xs.length ≤ 9223372036854775807) (g : Nat) (f : Tm → Tm → Bool) (hg : ∀ s t, POk g [aT s, aT t] (.sc (.bool (f s t)))) : POk 46 [vT xs, vT ys, .fn (.func g) [] []] (.sc (.bool (eqF f xs ys))) := by
  refine fn_ok mixed (En_ok _ _ _ _) (pl := fun _ => []) (fn := Go.Proofs.Tryz.f46) (c := _) (by kernel_rfl) rfl (by decide) (by kernel_rfl) (E := E0) ?_
  conv => whnf
  split
  · rename_i h3
    have h3 : (!decide ((xs.length : Int) = ys.length)) = true := h3
    have h3 : ¬ (xs.length = ys.length) := by simp at h3; omega
    conv => whnf
    exact ⟨rfl, by simp [eqF, h3]⟩
  rename_i h3
  have h3 : (!decide ((xs.length : Int) = ys.length)) = false := h3
  have h3 : xs.length = ys.length := by simp at h3; omega
  have hr : eqF f xs ys = allZ f xs ys := by simp [eqF, h3]
  conv => whnf
  refine ⟨{ j : Nat // allZ f xs ys = allZ f (xs.drop j) (ys.drop j) }, fun q => St [(1, vT ys), (2, .fn (.func g) [] []), (15, vT xs), (16, .sc (.int .i64 xs.length)), (17, .sc (.int .i64 q.1))] [] [], fun q => xs.length - q.1, ⟨0, rfl⟩, ?_, ?_⟩
  · exact wk_of ⟨avle_refl _, avle_refl _, avle_refl _, avle_refl _, avle_refl _, trivial⟩ trivial rfl ⟨trivial, trivial, trivial, trivial, trivial, trivial⟩
  rintro ⟨j, hj⟩
  conv => whnf
  split
  · rename_i hlt2
    have hlt2 : j < xs.length := by simpa using hlt2
    have hlt3 : j < ys.length := by omega
    have hwrap2 : IntKind.i64.wrap ((j : Int) + 1) = ((j + 1 : Nat) : Int) := (wrap_small _ (by omega) (by omega)).trans (by omega)
    rw [allZ_drop _ _ _ _ hlt2 hlt3] at hj
    conv => whnf
    refine ⟨⟨Int.natCast_nonneg _, Int.ofNat_lt.2 hlt2⟩, _, take_cells (g := cT) (n := 4) (fun _ => rfl) xs j hlt2, ?_⟩
    generalize xs[j] = s at hj
    conv => whnf
    refine ⟨⟨Int.natCast_nonneg _, Int.ofNat_lt.2 hlt3⟩, _, take_cells (g := cT) (n := 4) (fun _ => rfl) ys j hlt3, ?_⟩
    generalize ys[j] = t at hj
    conv => whnf
    refine use_pure (hg s t) rfl ⟨rfl, ?_⟩
    conv => whnf
    split
    · rename_i e
      have e : (!f s t) = true := e
      have e : f s t = false := by simpa using e
      conv => whnf
      exact ⟨rfl, by rw [hr, hj, e]; rfl⟩
    · rename_i e
      have e : (!f s t) = false := e
      have e : f s t = true := by simpa using e
      rw [e, Bool.true_and] at hj
      conv => whnf
      exact ⟨⟨j + 1, hj⟩, wk_of ⟨avle_refl _, avle_refl _, avle_refl _, avle_refl _, avle_int hwrap2, trivial⟩ trivial rfl ⟨trivial, trivial, trivial, trivial, trivial, trivial⟩, Nat.sub_lt_sub_left hlt2 (Nat.lt_succ_self j)⟩
  · rename_i hlt2
    have hlt2 : xs.length ≤ j := by simpa using hlt2
    rw [List.drop_of_length_le hlt2, List.drop_of_length_le (by omega)] at hj
    conv => whnf
    exact ⟨rfl, by rw [hr, hj]; rfl⟩
end Go.Proofs.YtjchgncgkhofhaaGreat.AL
/- The program's functions in abstract words: lint.fault. -/
set_option linter.unusedVariables false
namespace Go.Proofs.YtjchgncgkhofhaaGreat.AL
open Go
attribute [local irreducible] PlainFn CallOk

theorem nr3 {x y z : AV} (h : nr x = true) (k : nr y = true) (l : nr z = true) : nrL [x, y, z] = true := by simp [nrL, h, k, l]
theorem ok45 (l m : Lt) (hm : m.atom.args.length ≤ 9223372036854775807) (k : Nat) (gs : List AObj) (hk : gs[k]? = some (.cells 0 (cL l))) :
    PlainFn prg 45 ∧ CallOk prg 45 [aL m, .pp (.obj k) 0] gs fun v gs' => gs' = gs ∧ v = .sc (.bool (hitP l m)) := by
  refine fn_ok mixed (En_ok _ _ _ _) (pl := fun _ => []) (fn := Go.Proofs.Tryz.f45) (c := _) (by kernel_rfl) rfl (by decide) (by kernel_rfl) (E := E0) ?_
  conv => whnf
  split
  case h_2 =>
    rename_i h1
    have h1 : decide (m.kind = 1) = false := h1
    conv => whnf
    refine ⟨rfl, ?_⟩
    simp [hitP, h1]
  rename_i h1
  have h1 : decide (m.kind = 1) = true := h1
  conv => whnf
  refine ⟨_, hk, ?_⟩
  conv => whnf
  split
  case h_2 =>
    rename_i h2
    have h2 : decide (m.atom.pred = l.atom.pred) = false := h2
    conv => whnf
    refine ⟨rfl, ?_⟩
    simp [hitP, h2]
  rename_i h2
  have h2 : decide (m.atom.pred = l.atom.pred) = true := h2
  conv => whnf
  refine ⟨_, hk, ?_⟩
  conv => whnf
  refine use_pure (ok46 m.atom.args l.atom.args hm 47 sameT ok47) (nr3 (nr_vT _) (nr_vT _) rfl) ⟨rfl, ?_⟩
  conv => whnf
  refine ⟨rfl, ?_⟩
  refine avb ?_
  simp only [hitP, h1, h2]; rfl
/-- lint.fault's test of one literal -/
def faultL (ls : List Lt) (l : Lt) : Bool := (cmpdP l).2 || refP ls l
theorem ok43 (c : Cl) (hls : c.body.length ≤ 9223372036854775807) (hb : ∀ m ∈ c.body, m.atom.args.length ≤ 9223372036854775807) (l : Lt) (gs : List AObj) (h0 : gs[0]? = some (.cells 0 (cC c))) :
    PlainFn prg 43 ∧ CallOk prg 43 [aL l, .pp (.obj 0) 0] gs fun v gs' => gs'[0]? = some (.cells 0 (cC c)) ∧ v = .sc (.bool (faultL c.body l)) := by
  refine fn_ok mixed (En_ok _ _ _ _) (pl := fun _ => []) (fn := Go.Proofs.Tryz.f43) (c := _) (by kernel_rfl) rfl (by decide) (by kernel_rfl) (E := E1 (fun d => Nat.beq d 2) (fun g => Nat.beq g 23)) ?_
  have hk : (gs ++ [AObj.cells 0 (cL l)])[gs.length]? = some (.cells 0 (cL l)) := by simp
  have h0' : (gs ++ [AObj.cells 0 (cL l)])[0]? = some (.cells 0 (cC c)) := by
    cases gs with
    | nil => simp at h0
    | cons x r => simpa using h0
  conv => whnf
  refine ⟨_, hk, ?_⟩
  conv => whnf
  refine use_pure (ok23 l) (nr1 (nr_aL _)) ⟨rfl, ?_⟩
  conv => whnf
  split
  · rename_i e
    have e : (cmpdP l).2 = true := e
    conv => whnf
    refine ⟨h0', ?_⟩
    simp [faultL, e]
  rename_i e
  have e : (cmpdP l).2 = false := e
  conv => whnf
  refine ⟨_, hk, ?_⟩
  conv => whnf
  split
  case h_2 =>
    rename_i e2
    have e2 : decide (l.kind = 2) = false := e2
    conv => whnf
    refine ⟨h0', ?_⟩
    simp [faultL, refP, e, e2]
  rename_i e2
  have e2 : decide (l.kind = 2) = true := e2
  conv => whnf
  refine ⟨_, h0', ?_⟩
  conv => whnf
  refine use_c (ok44 c.body hls 45 gs.length (hitP l) (fun g => g = gs ++ [AObj.cells 0 (cL l)]) (fun t ht g hg => ?_) _ rfl) ?_
  · subst hg
    exact ok45 l t (hb t ht) _ _ hk
  rintro v gs' ⟨rfl, rfl⟩
  conv => whnf
  refine ⟨h0', avb ?_⟩
  simp only [faultL, refP, e, e2]; rfl
theorem ok21 (c : Cl) (hls : c.body.length ≤ 9223372036854775807) (hb : ∀ m ∈ c.body, m.atom.args.length ≤ 9223372036854775807) : POk 21 [aCl c] (.sc (.int .i64 (idxP (faultL c.body) c.body 0))) := by
  refine fn_ok mixed (En_ok _ _ _ _) (pl := fun _ => []) (fn := Go.Proofs.Tryz.f21) (c := _) (by kernel_rfl) rfl (by decide) (by kernel_rfl) (E := E1 (fun d => Nat.beq d 1) (fun _ => false)) ?_
  conv => whnf
  refine ⟨_, rfl, ?_⟩
  conv => whnf
  refine use_c (ok42 c.body hls 43 0 (faultL c.body) (fun g => g[0]? = some (.cells 0 (cC c))) (fun t ht g hg => ok43 c hls hb t g hg) _ rfl) ?_
  rintro v gs' ⟨h0, rfl⟩
  conv => whnf
  exact ⟨rfl, rfl⟩
end Go.Proofs.YtjchgncgkhofhaaGreat.AL
