/- The program's functions in abstract words: ways made longer (edictref18). -/
import Derived.Test.YtjchgncgkhofhaaGreatM10
set_option linter.unusedVariables false
namespace Go.Proofs.YtjchgncgkhofhaaGreat.AL
open Go
attribute [local irreducible] PlainFn CallOk

def fitL : Way → List Th → List Th → Option Way
  | w, x :: xs, y :: ys => if x.kind = 4 then (match standsP w x with | some z => if z = y then fitL w xs ys else none | none => fitL (w ++ [(x, y)]) xs ys) else if x = y then fitL w xs ys else none
  | w, _, _ => some w
def samePt (a b : Pt) : Bool := decide (a.kind = b.kind) && decide (a.pred = b.pred) && decide (a.op = b.op) && decide (a.things.length = b.things.length)
/-- edictref18.fitted -/
def fitP (w : Way) (a b : Pt) : Option Way := if samePt a b = true then fitL w a.things b.things else none
def fitV (o : Option Way) : AV := .tup [vW (o.getD []), .sc (.bool o.isSome)]
theorem fitL_drop (w : Way) (xs ys : List Th) (i : Nat) (h1 : i < xs.length) (h2 : i < ys.length) : fitL w (xs.drop i) (ys.drop i) = if xs[i].kind = 4 then (match standsP w xs[i] with | some z => if z = ys[i] then fitL w (xs.drop (i + 1)) (ys.drop (i + 1)) else none | none => fitL (w ++ [(xs[i], ys[i])]) (xs.drop (i + 1)) (ys.drop (i + 1))) else if xs[i] = ys[i] then fitL w (xs.drop (i + 1)) (ys.drop (i + 1)) else none := by
  rw [List.drop_eq_getElem_cons h1, List.drop_eq_getElem_cons h2]; rw [fitL]
set_option maxHeartbeats 1000000 in
theorem ok55 (w : Way) (a b : Pt) (hl : w.length + a.things.length ≤ 1000000) : POk 55 [vW w, aPt a, aPt b] (fitV (fitP w a b)) := by
  refine POk.of_t ?_ (nr2 (nr_vW _) rfl)
  refine fn_ok mixed (En_ok _ _ _ _) (pl := fun _ => []) (fn := Go.Proofs.Tryz.f55) (c := _) (by kernel_rfl) rfl (by decide) (by kernel_rfl) (E := E0) ?_
  have leafN : fitP w a b = none → avleL [.sc (.slice none 0 0), .sc (.bool false)] [vW ((fitP w a b).getD []), .sc (.bool (fitP w a b).isSome)] := by
    intro e; rw [e]; exact ⟨avle_nil _ _, avle_refl _, trivial⟩
  have leafS : ∀ v, fitP w a b = some v → avleL [.vec false 8 v.length (v.flatMap cW), .sc (.bool true)] [vW ((fitP w a b).getD []), .sc (.bool (fitP w a b).isSome)] := by
    intro v e; rw [e]; exact ⟨avle_refl _, avle_refl _, trivial⟩
  conv => whnf
  split
  · rename_i e1
    have e1 : (!decide (a.kind = b.kind)) = true := e1
    have hn := leafN (by simp [fitP, samePt]; intro h; simp [h] at e1)
    conv => whnf
    exact ⟨_, rfl, hn⟩
  rename_i e1
  have e1 : (!decide (a.kind = b.kind)) = false := e1
  conv => whnf
  split
  · rename_i e2
    have e2 : (!decide (a.pred = b.pred)) = true := e2
    have hn := leafN (by simp [fitP, samePt]; intro _ h; simp [h] at e2)
    conv => whnf
    exact ⟨_, rfl, hn⟩
  rename_i e2
  have e2 : (!decide (a.pred = b.pred)) = false := e2
  conv => whnf
  split
  · rename_i e3
    have e3 : (!decide (a.op = b.op)) = true := e3
    have hn := leafN (by simp [fitP, samePt]; intro _ _ h; simp [h] at e3)
    conv => whnf
    exact ⟨_, rfl, hn⟩
  rename_i e3
  have e3 : (!decide (a.op = b.op)) = false := e3
  conv => whnf
  split
  · rename_i e4
    have e4 : (!decide ((a.things.length : Int) = b.things.length)) = true := e4
    have hn := leafN (by simp [fitP, samePt]; intro _ _ _ h; simp [h] at e4)
    conv => whnf
    exact ⟨_, rfl, hn⟩
  rename_i e4
  have e4 : (!decide ((a.things.length : Int) = b.things.length)) = false := e4
  have e4 : a.things.length = b.things.length := by simp at e4; omega
  have hsame : samePt a b = true := by
    simp only [Bool.not_eq_false'] at e1 e2 e3
    simp only [samePt, e1, e2, e3, e4, decide_true]; rfl
  have hfit : fitP w a b = fitL w a.things b.things := by simp [fitP, hsame]
  conv => whnf
  refine ⟨⟨by show 0 + w.length ≤ _; omega, by show (0 + w.length) * 80 ≤ _; omega, okc_W w⟩, ?_⟩
  conv => whnf
  refine ⟨{ p : Nat × Way // fitP w a b = fitL p.2 (a.things.drop p.1) (b.things.drop p.1) ∧ p.2.length ≤ w.length + p.1 }, fun p => St [(4, .pp (.loc 4) 0), (5, .pp (.loc 5) 0), (8, vWo p.1.2), (9, .sc (.int .i64 p.1.1))] [(4, .cells 0 (cP a)), (5, .cells 0 (cP b))] [], fun p => a.things.length - p.1.1, ⟨(0, w), hfit, Nat.le_refl _⟩, ?_, ?_⟩
  · exact wk_of ⟨avle_refl _, avle_refl _, avle_eq (vWo_nil _), avle_refl _, trivial⟩ ⟨oble_refl _, oble_refl _, trivial⟩ rfl ⟨trivial, trivial, trivial, trivial, trivial⟩
  rintro ⟨⟨i, v⟩, h1, h2⟩
  simp only at h1 h2
  conv => whnf
  split
  case h_2 =>
    rename_i hlt
    have hlt : a.things.length ≤ i := by simpa using hlt
    rw [List.drop_of_length_le hlt] at h1
    have h1 : fitP w a b = some v := by rw [h1]; simp [fitL]
    have hs := leafS v h1
    conv => whnf
    exact ⟨_, rfl, hs⟩
  rename_i hlt
  have hlt : i < a.things.length := by simpa using hlt
  have hlt2 : i < b.things.length := by omega
  have hwrap : IntKind.i64.wrap ((i : Int) + 1) = ((i + 1 : Nat) : Int) := (wrap_small _ (by omega) (by omega)).trans (by omega)
  rw [fitL_drop _ _ _ _ hlt hlt2] at h1
  have htk := take_cells (g := cTh) (n := 4) (fun _ => rfl) a.things i hlt
  have hir : (0 : Int) ≤ (i : Int) ∧ (i : Int) < a.things.length := ⟨Int.natCast_nonneg _, Int.ofNat_lt.2 hlt⟩
  have htk2 := take_cells (g := cTh) (n := 4) (fun _ => rfl) b.things i hlt2
  have hir2 : (0 : Int) ≤ (i : Int) ∧ (i : Int) < b.things.length := ⟨Int.natCast_nonneg _, Int.ofNat_lt.2 hlt2⟩
  generalize a.things[i] = x at h1 htk
  generalize b.things[i] = y at h1 htk2
  conv => whnf
  refine ⟨hir, _, htk, ?_⟩
  conv => whnf
  refine ⟨hir2, _, htk2, ?_⟩
  conv => whnf
  split
  · rename_i e
    have e : (!decide (x.kind = 4)) = true := e
    have e : ¬ x.kind = 4 := by simpa using e
    rw [if_neg e] at h1
    conv => whnf
    refine use_pure (ok78 x y) rfl ⟨rfl, ?_⟩
    conv => whnf
    split
    · rename_i e5
      have e5 : (!decide (x = y)) = true := e5
      have e5 : ¬ x = y := by simpa using e5
      rw [if_neg e5] at h1
      have hn := leafN h1
      conv => whnf
      exact ⟨_, rfl, hn⟩
    · rename_i e5
      have e5 : (!decide (x = y)) = false := e5
      have e5 : x = y := by simpa using e5
      rw [if_pos e5] at h1
      conv => whnf
      exact ⟨⟨(i + 1, v), h1, by show v.length ≤ w.length + (i + 1); omega⟩, wk_of ⟨avle_refl _, avle_refl _, avle_refl _, avle_int hwrap, trivial⟩ ⟨oble_refl _, oble_refl _, trivial⟩ rfl ⟨trivial, trivial, trivial, trivial, trivial⟩, Nat.sub_lt_sub_left hlt (Nat.lt_succ_self i)⟩
  rename_i e
  have e : (!decide (x.kind = 4)) = false := e
  have e : x.kind = 4 := by simpa using e
  rw [if_pos e] at h1
  conv => whnf
  refine use_pure (ok79 v x (by omega)) (nr2 (nr_vW _) rfl) ⟨rfl, ?_⟩
  generalize standsP v x = o at h1
  conv => whnf
  cases o with
  | some z =>
    simp only at h1
    conv => whnf
    refine use_pure (ok78 z y) rfl ⟨rfl, ?_⟩
    conv => whnf
    split
    · rename_i e5
      have e5 : (!decide (z = y)) = true := e5
      have e5 : ¬ z = y := by simpa using e5
      rw [if_neg e5] at h1
      have hn := leafN h1
      conv => whnf
      exact ⟨_, rfl, hn⟩
    · rename_i e5
      have e5 : (!decide (z = y)) = false := e5
      have e5 : z = y := by simpa using e5
      rw [if_pos e5] at h1
      conv => whnf
      exact ⟨⟨(i + 1, v), h1, by show v.length ≤ w.length + (i + 1); omega⟩, wk_of ⟨avle_refl _, avle_refl _, avle_refl _, avle_int hwrap, trivial⟩ ⟨oble_refl _, oble_refl _, trivial⟩ rfl ⟨trivial, trivial, trivial, trivial, trivial⟩, Nat.sub_lt_sub_left hlt (Nat.lt_succ_self i)⟩
  | none =>
    simp only at h1
    conv => whnf
    refine ⟨⟨by show v.length + 1 ≤ _; omega, by show (v.length + 1) * 80 ≤ _; omega, rfl⟩, ?_⟩
    conv => whnf
    exact ⟨⟨(i + 1, v ++ [(x, y)]), h1, by show (v ++ [(x, y)]).length ≤ w.length + (i + 1); simp; omega⟩, wk_of ⟨avle_refl _, avle_refl _, avle_eq (vWo_app _ _), avle_int hwrap, trivial⟩ ⟨oble_refl _, oble_refl _, trivial⟩ rfl ⟨trivial, trivial, trivial, trivial, trivial⟩, Nat.sub_lt_sub_left hlt (Nat.lt_succ_self i)⟩
end Go.Proofs.YtjchgncgkhofhaaGreat.AL
/- The program's functions in abstract words: all the ways of a part (edictref18). -/
set_option linter.unusedVariables false
namespace Go.Proofs.YtjchgncgkhofhaaGreat.AL
open Go
attribute [local irreducible] PlainFn CallOk

/-- edictref18.alike -/
def alikeW (v w : Way) : Bool := decide (v.length = w.length) && v.all fun p => decide (standsP w p.1 = some p.2)
theorem all_drop {α : Type} (f : α → Bool) (l : List α) (i : Nat) (h : i < l.length) : (l.drop i).all f = (f l[i] && (l.drop (i + 1)).all f) := by
  rw [List.drop_eq_getElem_cons h]; rfl
theorem ok112 (v w : Way) (hv : v.length ≤ 1000000) (hw : w.length ≤ 1000000) : POk 112 [vW v, vW w] (.sc (.bool (alikeW v w))) := by
  refine fn_ok mixed (En_ok _ _ _ _) (pl := fun _ => (List.range 12).map Pl.one) (fn := Go.Proofs.Tryz.f112) (c := _) (by kernel_rfl) rfl (by decide) (by kernel_rfl) (E := E0) ?_
  conv => whnf
  split
  · rename_i h3
    have h3 : (!decide ((v.length : Int) = w.length)) = true := h3
    have h3 : ¬ (v.length = w.length) := by simp at h3; omega
    conv => whnf
    exact ⟨rfl, by simp [alikeW, h3]⟩
  rename_i h3
  have h3 : (!decide ((v.length : Int) = w.length)) = false := h3
  have h3 : v.length = w.length := by simp at h3; omega
  have hr : alikeW v w = v.all fun p => decide (standsP w p.1 = some p.2) := by simp [alikeW, h3]
  conv => whnf
  refine ⟨{ i : Nat // alikeW v w = (v.drop i).all fun p => decide (standsP w p.1 = some p.2) }, fun i => St [(0, vW v), (1, vW w), (5, .sc (.int .i64 i.1))] [] [], fun i => v.length - i.1, ⟨0, hr⟩, ?_, ?_⟩
  · exact wk_of ⟨avle_refl _, avle_refl _, avle_refl _, trivial⟩ trivial rfl ⟨trivial, trivial, trivial, trivial⟩
  rintro ⟨i, hinv⟩
  conv => whnf
  split
  case h_2 =>
    rename_i hlt
    have hlt : v.length ≤ i := by simpa using hlt
    rw [List.drop_of_length_le hlt] at hinv
    conv => whnf
    exact ⟨rfl, avb (hinv.trans rfl).symm⟩
  rename_i hlt
  have hlt : i < v.length := by simpa using hlt
  have hwrap : IntKind.i64.wrap ((i : Int) + 1) = ((i + 1 : Nat) : Int) := (wrap_small _ (by omega) (by omega)).trans (by omega)
  rw [all_drop _ _ _ hlt] at hinv
  have htk := take_cells (g := cW) (n := 8) (fun _ => rfl) v i hlt
  have hir : (0 : Int) ≤ (i : Int) ∧ (i : Int) < v.length := ⟨Int.natCast_nonneg _, Int.ofNat_lt.2 hlt⟩
  generalize v[i] = p at hinv htk
  obtain ⟨x, y⟩ := p
  simp only at hinv
  have bad : ¬ standsP w x = some y → alikeW v w = false := fun e => by rw [hinv, decide_eq_false e]; rfl
  conv => whnf
  refine ⟨hir, _, htk, ?_⟩
  conv => whnf
  refine use_pure (ok79 w x hw) (nr2 (nr_vW _) rfl) ⟨rfl, ?_⟩
  generalize standsP w x = o at hinv bad
  conv => whnf
  refine And.intro (by kernel_rfl) ?_
  cases o with
  | none =>
    have hb := bad (by simp)
    conv => whnf
    exact ⟨rfl, avb hb.symm⟩
  | some z =>
    conv => whnf
    refine ⟨hir, _, htk, ?_⟩
    conv => whnf
    refine use_ex (ok78 z y) rfl ⟨rfl, ?_⟩
    conv => whnf
    split
    · rename_i e
      have e : (!decide (z = y)) = true := e
      have hb := bad (by simpa using e)
      conv => whnf
      exact ⟨rfl, avb hb.symm⟩
    · rename_i e
      have e : (!decide (z = y)) = false := e
      have e : z = y := by simpa using e
      rw [decide_eq_true (by rw [e]), Bool.true_and] at hinv
      conv => whnf
      exact ⟨⟨i + 1, hinv⟩, wk_of ⟨avle_refl _, avle_refl _, avle_int hwrap, trivial⟩ trivial rfl ⟨trivial, trivial, trivial, trivial⟩, Nat.sub_lt_sub_left hlt (Nat.lt_succ_self i)⟩
def cWs (w : Way) : List AV := [vW w]
def vWs (l : List Way) : AV := .vec false 1 l.length (l.flatMap cWs)
def vWso (l : List Way) : AV := .vec true 1 l.length (l.flatMap cWs)
theorem nrL_cWs (w : Way) : nrL (cWs w) = true := nr1 (nr_vW w)
theorem nr_vWs (l : List Way) : nr (vWs l) = true := nrL_flat nrL_cWs l
theorem nr_vWso (l : List Way) : nr (vWso l) = true := nrL_flat nrL_cWs l
theorem vWso_app (a b : List Way) : vWso (a ++ b) = .vec true 1 (a.length + b.length) (a.flatMap cWs ++ b.flatMap cWs) := by simp [vWso]
/-- edictref18.joined -/
def joinP (l : List Way) (w : Way) : List Way := if l.any (fun v => alikeW v w) = true then l else l ++ [w]
/-- The evaluation of joined and of those who call it: its first argument goes along with the right to append. -/
noncomputable abbrev EJ : Env := En (fun _ => false) (fun d => Nat.beq d 18) (fun g => Nat.beq g 99) (fun _ => true)
theorem ok99 (l : List Way) (w : Way) (hl : l.length ≤ 1000000) (hv : ∀ v ∈ l, v.length ≤ 1000000) (hw : w.length ≤ 1000000) : POk 99 [vWso l, vW w] (vWso (joinP l w)) := by
  refine POk.of_v ?_ (nrL_flat nrL_cWs _)
  refine fn_ok mixed (En_ok _ _ _ _) (pl := fun _ => []) (fn := Go.Proofs.Tryz.f99) (c := _) (by kernel_rfl) rfl (by decide) (by kernel_rfl) (E := EJ) ?_
  conv => whnf
  refine ⟨{ i : Nat // l.any (fun v => alikeW v w) = (l.drop i).any (fun v => alikeW v w) }, fun i => St [(0, vWso l), (1, vW w), (5, .sc (.int .i64 i.1))] [] [], fun i => l.length - i.1, ⟨0, rfl⟩, ?_, ?_⟩
  · exact wk_of ⟨avle_refl _, avle_refl _, avle_refl _, trivial⟩ trivial rfl ⟨trivial, trivial, trivial, trivial⟩
  rintro ⟨i, hinv⟩
  conv => whnf
  split
  case h_2 =>
    rename_i hlt
    have hlt : l.length ≤ i := by simpa using hlt
    rw [List.drop_of_length_le hlt] at hinv
    have hj : joinP l w = l ++ [w] := by simp only [joinP, hinv]; rfl
    have hres : avle (.vec true 1 (l.length + 1) (l.flatMap cWs ++ cWs w)) (vWso (joinP l w)) := by rw [hj, vWso_app]; exact avle_eq (by simp)
    conv => whnf
    refine ⟨⟨by show l.length + 1 ≤ _; omega, by show (l.length + 1) * 24 ≤ _; omega, rfl⟩, ?_⟩
    conv => whnf
    exact hres
  rename_i hlt
  have hlt : i < l.length := by simpa using hlt
  have hwrap : IntKind.i64.wrap ((i : Int) + 1) = ((i + 1 : Nat) : Int) := (wrap_small _ (by omega) (by omega)).trans (by omega)
  rw [any_drop _ _ _ hlt] at hinv
  have htk := take_cells (g := cWs) (n := 1) (fun _ => rfl) l i hlt
  have hir : (0 : Int) ≤ (i : Int) ∧ (i : Int) < l.length := ⟨Int.natCast_nonneg _, Int.ofNat_lt.2 hlt⟩
  have hmem := hv l[i] (List.getElem_mem hlt)
  generalize l[i] = v at hinv htk hmem
  conv => whnf
  refine ⟨hir, _, htk, ?_⟩
  conv => whnf
  refine use_pure (ok112 v w hmem hw) (nr2 (nr_vW _) (nr_vW _)) ⟨rfl, ?_⟩
  conv => whnf
  split
  · rename_i e
    have e : alikeW v w = true := e
    have hj : joinP l w = l := by rw [e, Bool.true_or] at hinv; simp only [joinP, hinv]; rfl
    have hres : avle (.vec true 1 l.length (l.flatMap cWs)) (vWso (joinP l w)) := by rw [hj]; exact avle_refl _
    conv => whnf
    exact hres
  · rename_i e
    have e : alikeW v w = false := e
    rw [e, Bool.false_or] at hinv
    conv => whnf
    exact ⟨⟨i + 1, hinv⟩, wk_of ⟨avle_refl _, avle_refl _, avle_int hwrap, trivial⟩ trivial rfl ⟨trivial, trivial, trivial, trivial⟩, Nat.sub_lt_sub_left hlt (Nat.lt_succ_self i)⟩
end Go.Proofs.YtjchgncgkhofhaaGreat.AL
/- The program's functions in abstract words: whether all parts can be parts of a body (edictref18). -/
set_option linter.unusedVariables false
namespace Go.Proofs.YtjchgncgkhofhaaGreat.AL
open Go
attribute [local irreducible] PlainFn CallOk

theorem fitL_len : ∀ (xs ys : List Th) (w v : Way), fitL w xs ys = some v → v.length ≤ w.length + xs.length
  | [], ys, w, v, h => by simp [fitL] at h; subst h; simp
  | x :: xs, [], w, v, h => by simp [fitL] at h; subst h; simp
  | x :: xs, y :: ys, w, v, h => by
    unfold fitL at h
    simp only [List.length_cons]
    split at h
    · split at h
      · split at h
        · have := fitL_len xs ys w v h; omega
        · cases h
      · have := fitL_len xs ys _ v h; simp at this; omega
    · split at h
      · have := fitL_len xs ys w v h; omega
      · cases h
theorem fitP_len {w v : Way} {a b : Pt} (h : fitP w a b = some v) : v.length ≤ w.length + a.things.length := by
  unfold fitP at h
  split at h
  · exact fitL_len _ _ _ _ h
  · cases h
def stepF (w : Way) (a : Pt) (out : List Way) (b : Pt) : List Way := match fitP w a b with | some v => joinP out v | none => out
def fitsA (w : Way) (a : Pt) : List Way → List Pt → List Way
  | out, [] => out
  | out, b :: r => fitsA w a (stepF w a out b) r
/-- edictref18.fits -/
def fitsP (w : Way) (a : Pt) (body : List Pt) : List Way := fitsA w a [] body
theorem fitsA_drop (w : Way) (a : Pt) (out : List Way) (l : List Pt) (i : Nat) (h : i < l.length) : fitsA w a out (l.drop i) = fitsA w a (stepF w a out l[i]) (l.drop (i + 1)) := by
  rw [List.drop_eq_getElem_cons h]; rfl
theorem step_ok {w : Way} {a b : Pt} {out : List Way} {n : Nat} (h1 : out.length ≤ n) (h2 : ∀ v ∈ out, v.length ≤ w.length + a.things.length) : (stepF w a out b).length ≤ n + 1 ∧ ∀ v ∈ stepF w a out b, v.length ≤ w.length + a.things.length := by
  unfold stepF
  cases e : fitP w a b with
  | none => exact ⟨by show out.length ≤ n + 1; omega, h2⟩
  | some v =>
    simp only [joinP]
    split
    · exact ⟨by omega, h2⟩
    · refine ⟨by simp; omega, fun u hu => ?_⟩
      rcases List.mem_append.1 hu with hu | hu
      · exact h2 u hu
      · simp at hu; subst hu; exact fitP_len e
theorem fitsA_ok {w : Way} {a : Pt} : ∀ (l : List Pt) (out : List Way), (∀ v ∈ out, v.length ≤ w.length + a.things.length) → ∀ v ∈ fitsA w a out l, v.length ≤ w.length + a.things.length
  | [], out, h => h
  | b :: r, out, h => fitsA_ok r _ (step_ok (Nat.le_refl _) h).2
theorem nr3' {x y z : AV} (h : nr x = true) (k : nr y = true) (l : nr z = true) : nrL [x, y, z] = true := by simp [nrL, h, k, l]
/-- The evaluation of those who call joined. -/
noncomputable abbrev EJ2 : Env := En (fun _ => false) (fun _ => false) (fun g => Nat.beq g 99) (fun _ => true)
theorem ok82 (w : Way) (a : Pt) (body : List Pt) (hb : body.length ≤ 1000000) (hl : w.length + a.things.length ≤ 1000000) : POk 82 [vW w, aPt a, vP body] (vWs (fitsP w a body)) := by
  refine POk.of_v ?_ (nrL_flat nrL_cWs _)
  refine fn_ok mixed (En_ok _ _ _ _) (pl := fun _ => (List.range 12).map Pl.one) (fn := Go.Proofs.Tryz.f82) (c := _) (by kernel_rfl) rfl (by decide) (by kernel_rfl) (E := EJ2) ?_
  conv => whnf
  refine ⟨{ p : Nat × List Way // fitsP w a body = fitsA w a p.2 (body.drop p.1) ∧ p.2.length ≤ p.1 ∧ ∀ v ∈ p.2, v.length ≤ w.length + a.things.length }, fun p => St [(0, vW w), (2, vP body), (4, .pp (.loc 4) 0), (7, vWso p.1.2), (8, .sc (.int .i64 p.1.1))] [(4, .cells 0 (cP a))] [], fun p => body.length - p.1.1, ⟨(0, []), rfl, Nat.le_refl _, by simp⟩, ?_, ?_⟩
  · exact wk_of ⟨avle_refl _, avle_refl _, avle_refl _, avle_nil _ _, avle_refl _, trivial⟩ ⟨oble_refl _, trivial⟩ rfl ⟨trivial, trivial, trivial, trivial, trivial, trivial⟩
  rintro ⟨⟨i, out⟩, h1, h2, h3⟩
  simp only at h1 h2 h3
  conv => whnf
  split
  case h_2 =>
    rename_i hlt
    have hlt : body.length ≤ i := by simpa using hlt
    rw [List.drop_of_length_le hlt] at h1
    have hres : avle (.vec false 1 out.length (out.flatMap cWs)) (vWs (fitsP w a body)) := by rw [h1]; exact avle_refl _
    conv => whnf
    exact hres
  rename_i hlt
  have hlt : i < body.length := by simpa using hlt
  have hwrap : IntKind.i64.wrap ((i : Int) + 1) = ((i + 1 : Nat) : Int) := (wrap_small _ (by omega) (by omega)).trans (by omega)
  rw [fitsA_drop _ _ _ _ _ hlt] at h1
  have htk := take_cells (g := cP) (n := 4) (fun _ => rfl) body i hlt
  have hir : (0 : Int) ≤ (i : Int) ∧ (i : Int) < body.length := ⟨Int.natCast_nonneg _, Int.ofNat_lt.2 hlt⟩
  generalize body[i] = b at h1 htk
  have hs := step_ok (b := b) h2 h3
  conv => whnf
  refine And.intro (by kernel_rfl) ?_
  conv => whnf
  refine ⟨hir, _, htk, ?_⟩
  conv => whnf
  refine use_ex (ok55 w a b hl) (nr3' (nr_vW _) (nr_aPt _) (nr_aPt _)) ⟨rfl, ?_⟩
  have hfl := @fitP_len w
  unfold stepF at h1 hs
  generalize ho : fitP w a b = o at h1 hs
  cases o with
  | none =>
    simp only at h1 hs
    conv => whnf
    exact ⟨⟨(i + 1, out), h1, hs⟩, wk_of ⟨avle_refl _, avle_refl _, avle_refl _, avle_refl _, avle_int hwrap, trivial⟩ ⟨oble_refl _, trivial⟩ rfl ⟨trivial, trivial, trivial, trivial, trivial, trivial⟩, Nat.sub_lt_sub_left hlt (Nat.lt_succ_self i)⟩
  | some v =>
    simp only at h1 hs
    conv => whnf
    refine use_pure (ok99 out v (by omega) (fun u hu => by have := h3 u hu; omega) (by have := hfl ho; omega)) (nr2 (nr_vWso _) (nr_vW _)) ⟨rfl, ?_⟩
    conv => whnf
    exact ⟨⟨(i + 1, joinP out v), h1, hs⟩, wk_of ⟨avle_refl _, avle_refl _, avle_refl _, avle_refl _, avle_int hwrap, trivial⟩ ⟨oble_refl _, trivial⟩ rfl ⟨trivial, trivial, trivial, trivial, trivial, trivial⟩, Nat.sub_lt_sub_left hlt (Nat.lt_succ_self i)⟩

def pickA (F : Pt → List Way) : List Pt → Nat → Nat × List Way → Nat × List Way
  | [], _, r => r
  | p :: ps, i, r => pickA F ps (i + 1) (if (F p).length < r.2.length then (i, F p) else r)
def pickP (F : Pt → List Way) : List Pt → Nat × List Way
  | [] => (0, [])
  | p :: ps => pickA F ps 1 (0, F p)
def restP (at_ : Nat) : List Pt → Nat → List Pt
  | [], _ => []
  | p :: r, i => if i = at_ then restP at_ r (i + 1) else p :: restP at_ r (i + 1)
def reachP (body : List Pt) : Nat → Way → List Pt → Bool
  | 0, _, _ => true
  | n + 1, w, l => (pickP (fun p => fitsP w p body) l).2.any fun v => reachP body n v (restP (pickP (fun p => fitsP w p body) l).1 l 0)
theorem pickA_drop (F : Pt → List Way) (l : List Pt) (i : Nat) (r : Nat × List Way) (h : i < l.length) : pickA F (l.drop i) i r = pickA F (l.drop (i + 1)) (i + 1) (if (F l[i]).length < r.2.length then (i, F l[i]) else r) := by
  rw [List.drop_eq_getElem_cons h]; rfl
theorem restP_drop (a : Nat) (l : List Pt) (i : Nat) (h : i < l.length) : restP a (l.drop i) i = if i = a then restP a (l.drop (i + 1)) (i + 1) else l[i] :: restP a (l.drop (i + 1)) (i + 1) := by
  rw [List.drop_eq_getElem_cons h]; rfl
theorem restP_past (a : Nat) : ∀ (l : List Pt) (i : Nat), a < i → restP a l i = l
  | [], _, _ => rfl
  | p :: r, i, h => by unfold restP; rw [if_neg (by omega), restP_past a r (i + 1) (by omega)]
theorem restP_len (a : Nat) : ∀ (l : List Pt) (i : Nat), i ≤ a → a < i + l.length → (restP a l i).length + 1 = l.length
  | [], i, h1, h2 => by simp at h2; omega
  | p :: r, i, h1, h2 => by
    unfold restP; split
    · rename_i h; rw [restP_past a r (i + 1) (by omega)]; simp
    · rename_i h; simp only [List.length_cons] at h2 ⊢; rw [restP_len a r (i + 1) (by omega) (by omega)]
theorem restP_sub (a : Nat) : ∀ (l : List Pt) (i : Nat), ∀ p ∈ restP a l i, p ∈ l
  | [], i, p, h => h
  | q :: r, i, p, h => by
    unfold restP at h; split at h
    · exact List.mem_cons_of_mem _ (restP_sub a r _ p h)
    · rcases List.mem_cons.1 h with rfl | h
      · exact List.mem_cons_self
      · exact List.mem_cons_of_mem _ (restP_sub a r _ p h)
theorem pickA_ok (F : Pt → List Way) (A : Nat → List Way → Prop) : ∀ (l : List Pt) (i : Nat) (r : Nat × List Way), A r.1 r.2 → (∀ j (h : j < l.length), A (i + j) (F l[j])) → A (pickA F l i r).1 (pickA F l i r).2
  | [], _, _, h, _ => h
  | p :: ps, i, r, h, hs => by
    unfold pickA
    refine pickA_ok F A ps (i + 1) _ ?_ fun j hj => ?_
    · split
      · exact hs 0 (by simp)
      · exact h
    · have := hs (j + 1) (by simpa using hj)
      rw [show i + 1 + j = i + (j + 1) from by omega]; simpa using this
/-- The one that is picked is one of them. -/
theorem pickP_ok (F : Pt → List Way) (l : List Pt) (hl : l ≠ []) : ∃ (h : (pickP F l).1 < l.length), (pickP F l).2 = F l[(pickP F l).1] := by
  cases l with
  | nil => exact absurd rfl hl
  | cons p ps =>
    have := pickA_ok F (fun a b => ∃ (h : a < (p :: ps).length), b = F (p :: ps)[a]) ps 1 (0, F p) ⟨by simp, rfl⟩ fun j hj => ⟨by simp; omega, by simp [Nat.add_comm 1 j]⟩
    exact this
theorem fitsP_len {w : Way} {a : Pt} {body : List Pt} {v : Way} (h : v ∈ fitsP w a body) : v.length ≤ w.length + a.things.length := fitsA_ok body [] (by simp) v h
theorem fitsA_len (w : Way) (a : Pt) : ∀ (l : List Pt) (out : List Way), (fitsA w a out l).length ≤ out.length + l.length
  | [], out => by simp [fitsA]
  | b :: r, out => by
    have h1 := fitsA_len w a r (stepF w a out b)
    have h2 : (stepF w a out b).length ≤ out.length + 1 := by
      unfold stepF
      cases fitP w a b with
      | none => show out.length ≤ _; omega
      | some v => show (joinP out v).length ≤ _; unfold joinP; split <;> simp
    show (fitsA w a (stepF w a out b) r).length ≤ _
    simp only [List.length_cons]; omega
set_option maxHeartbeats 1000000 in
/-- edictref18.reaches -/
theorem ok57 (body : List Pt) (K : Nat) (hb : body.length ≤ 1000000) : ∀ (n : Nat) (w : Way) (l : List Pt), l.length = n → (∀ p ∈ l, p.things.length ≤ K) → n ≤ 1000000 → w.length + n * K ≤ 1000000 → POk 57 [vW w, vP l, vP body] (.sc (.bool (reachP body n w l))) := by
  intro n
  induction n with
  | zero =>
    intro w l hl hK hn hw
    refine fn_ok mixed (En_ok _ _ _ _) (pl := fun _ => []) (fn := Go.Proofs.Tryz.f57) (c := _) (by kernel_rfl) rfl (by decide) (by kernel_rfl) (E := E0) ?_
    have : l = [] := List.eq_nil_of_length_eq_zero hl
    subst this
    conv => whnf
    exact ⟨rfl, rfl⟩
  | succ n ih =>
    intro w l hl hK hn hw
    have hne : l ≠ [] := fun e => by subst e; cases hl
    have hmul : (n + 1) * K = n * K + K := Nat.succ_mul n K
    have hfit : ∀ p ∈ l, POk 82 [vW w, aPt p, vP body] (vWs (fitsP w p body)) := fun p hp => ok82 w p body hb (by have := hK p hp; omega)
    refine fn_ok mixed (En_ok _ _ _ _) (pl := fun _ => []) (fn := Go.Proofs.Tryz.f57) (c := _) (by kernel_rfl) rfl (by decide) (by kernel_rfl) (E := E0) ?_
    conv => whnf
    split
    · rename_i e
      have e : decide ((l.length : Int) = 0) = true := e
      have e := of_decide_eq_true e
      omega
    have h0 : 0 < l.length := by omega
    have hr : reachP body (n + 1) w l = (pickP (fun p => fitsP w p body) l).2.any fun v => reachP body n v (restP (pickP (fun p => fitsP w p body) l).1 l 0) := rfl
    have hok := pickP_ok (fun p => fitsP w p body) l hne
    have hpk : pickP (fun p => fitsP w p body) l = pickA (fun p => fitsP w p body) (l.drop 1) 1 (0, fitsP w l[0] body) := by
      cases l with
      | nil => exact absurd rfl hne
      | cons p0 ps => rfl
    have htk0 := take_cells (g := cP) (n := 4) (fun _ => rfl) l 0 h0
    have hf0 := hfit l[0] (List.getElem_mem h0)
    generalize hq : pickP (fun p => fitsP w p body) l = pk at hr hok hpk
    generalize l[0] = p0 at htk0 hf0 hpk
    conv => whnf
    refine ⟨⟨by decide, by show (0 : Int) < (l.length : Int); omega⟩, _, htk0, ?_⟩
    conv => whnf
    refine use_pure hf0 (nr3' (nr_vW _) (nr_aPt _) (nr_vP _)) ⟨rfl, ?_⟩
    clear htk0 hq
    conv => whnf
    refine ⟨{ p : Nat × Nat × List Way // pk = pickA (fun p => fitsP w p body) (l.drop p.1) p.1 (p.2.1, p.2.2) }, fun p => St [(0, vW w), (1, vP l), (2, vP body), (7, .sc (.int .i64 p.1.2.1)), (8, vWs p.1.2.2), (9, .sc (.int .i64 p.1.1))] [] [], fun p => l.length - p.1.1, ⟨(1, 0, fitsP w p0 body), hpk⟩, ?_, ?_⟩
    · exact wk_of ⟨avle_refl _, avle_refl _, avle_refl _, avle_refl _, avle_refl _, avle_refl _, trivial⟩ trivial rfl ⟨trivial, trivial, trivial, trivial, trivial, trivial, trivial⟩
    rintro ⟨⟨i, a, best⟩, h1⟩
    simp only at h1
    conv => whnf
    split
    · rename_i hlt
      have hlt : i < l.length := by simpa using hlt
      have hwrap : IntKind.i64.wrap ((i : Int) + 1) = ((i + 1 : Nat) : Int) := (wrap_small _ (by omega) (by omega)).trans (by omega)
      rw [pickA_drop _ _ _ _ hlt] at h1
      have htk := take_cells (g := cP) (n := 4) (fun _ => rfl) l i hlt
      have hir : (0 : Int) ≤ (i : Int) ∧ (i : Int) < l.length := ⟨Int.natCast_nonneg _, Int.ofNat_lt.2 hlt⟩
      have hmem := hfit l[i] (List.getElem_mem hlt)
      generalize l[i] = p at h1 htk hmem
      conv => whnf
      refine ⟨hir, _, htk, ?_⟩
      conv => whnf
      refine use_pure hmem (nr3' (nr_vW _) (nr_aPt _) (nr_vP _)) ⟨rfl, ?_⟩
      conv => whnf
      split
      · rename_i e
        have e : decide (((fitsP w p body).length : Int) < best.length) = true := e
        have e := of_decide_eq_true e
        rw [if_pos (show (fitsP w p body).length < best.length from by omega)] at h1
        conv => whnf
        exact ⟨⟨(i + 1, i, fitsP w p body), h1⟩, wk_of ⟨avle_refl _, avle_refl _, avle_refl _, avle_refl _, avle_refl _, avle_int hwrap, trivial⟩ trivial rfl ⟨trivial, trivial, trivial, trivial, trivial, trivial, trivial⟩, Nat.sub_lt_sub_left hlt (Nat.lt_succ_self i)⟩
      · rename_i e
        have e : decide (((fitsP w p body).length : Int) < best.length) = false := e
        have e := of_decide_eq_false e
        rw [if_neg (show ¬ (fitsP w p body).length < best.length from by omega)] at h1
        conv => whnf
        exact ⟨⟨(i + 1, a, best), h1⟩, wk_of ⟨avle_refl _, avle_refl _, avle_refl _, avle_refl _, avle_refl _, avle_int hwrap, trivial⟩ trivial rfl ⟨trivial, trivial, trivial, trivial, trivial, trivial, trivial⟩, Nat.sub_lt_sub_left hlt (Nat.lt_succ_self i)⟩
    rename_i hlt
    have hlt : l.length ≤ i := by simpa using hlt
    rw [List.drop_of_length_le hlt] at h1
    have h1 : pk = (a, best) := h1
    subst h1
    obtain ⟨hal, hbest⟩ := hok
    simp only at hal hbest hr
    have hbl : ∀ v ∈ best, v.length ≤ w.length + K := by
      intro v hv
      rw [hbest] at hv
      have h1 := fitsP_len hv
      have h2 := hK _ (List.getElem_mem hal)
      omega
    have hbn : best.length ≤ 1000000 := by
      rw [hbest]
      have := fitsA_len w l[a] body []
      simp only [List.length_nil] at this
      show (fitsA w l[a] [] body).length ≤ _
      omega
    clear hbest
    conv => whnf
    refine ⟨{ p : Nat × List Pt // restP a l 0 = p.2 ++ restP a (l.drop p.1) p.1 ∧ p.2.length ≤ p.1 }, fun p => St [(1, vP l), (2, vP body), (7, .sc (.int .i64 a)), (8, vWs best), (11, vPo p.1.2), (12, .sc (.int .i64 p.1.1))] [] [], fun p => l.length - p.1.1, ⟨(0, []), rfl, Nat.le_refl _⟩, ?_, ?_⟩
    · exact wk_of ⟨avle_refl _, avle_refl _, avle_refl _, avle_refl _, avle_nil _ _, avle_refl _, trivial⟩ trivial rfl ⟨trivial, trivial, trivial, trivial, trivial, trivial, trivial⟩
    rintro ⟨⟨i, rest⟩, h1, h2⟩
    simp only at h1 h2
    conv => whnf
    split
    · rename_i hlt
      have hlt : i < l.length := by simpa using hlt
      have hwrap : IntKind.i64.wrap ((i : Int) + 1) = ((i + 1 : Nat) : Int) := (wrap_small _ (by omega) (by omega)).trans (by omega)
      rw [restP_drop _ _ _ hlt] at h1
      have htk := take_cells (g := cP) (n := 4) (fun _ => rfl) l i hlt
      have hir : (0 : Int) ≤ (i : Int) ∧ (i : Int) < l.length := ⟨Int.natCast_nonneg _, Int.ofNat_lt.2 hlt⟩
      generalize l[i] = p at h1 htk
      conv => whnf
      split
      · rename_i e
        have e : (!decide ((i : Int) = a)) = true := e
        have e : ¬ i = a := by simp at e; omega
        rw [if_neg e, ← List.append_cons_assoc'] at h1
        have happ : vPo (rest ++ [p]) = .vec true 4 (rest.length + 1) (rest.flatMap cP ++ cP p) := by rw [vPo_app]; simp
        conv => whnf
        refine ⟨hir, _, htk, ?_⟩
        conv => whnf
        refine ⟨⟨by show rest.length + 1 ≤ _; omega, by show (rest.length + 1) * 56 ≤ _; omega, rfl⟩, ?_⟩
        conv => whnf
        exact ⟨⟨(i + 1, rest ++ [p]), h1, by simp; omega⟩, wk_of ⟨avle_refl _, avle_refl _, avle_refl _, avle_refl _, avle_eq happ, avle_int hwrap, trivial⟩ trivial rfl ⟨trivial, trivial, trivial, trivial, trivial, trivial, trivial⟩, Nat.sub_lt_sub_left hlt (Nat.lt_succ_self i)⟩
      · rename_i e
        have e : (!decide ((i : Int) = a)) = false := e
        have e : i = a := by simp at e; omega
        rw [if_pos e] at h1
        conv => whnf
        exact ⟨⟨(i + 1, rest), h1, by show rest.length ≤ i + 1; omega⟩, wk_of ⟨avle_refl _, avle_refl _, avle_refl _, avle_refl _, avle_refl _, avle_int hwrap, trivial⟩ trivial rfl ⟨trivial, trivial, trivial, trivial, trivial, trivial, trivial⟩, Nat.sub_lt_sub_left hlt (Nat.lt_succ_self i)⟩
    rename_i hlt
    have hlt : l.length ≤ i := by simpa using hlt
    rw [List.drop_of_length_le hlt] at h1
    have h1 : restP a l 0 = rest := by rw [h1]; simp [restP]
    have hrl := restP_len a l 0 (Nat.zero_le _) (by omega)
    have hrs := restP_sub a l 0
    rw [h1] at hr hrl hrs
    have hcall : ∀ v ∈ best, POk 57 [vW v, vP rest, vP body] (.sc (.bool (reachP body n v rest))) := fun v hv =>
      ih v rest (by omega) (fun p hp => hK p (hrs p hp)) (by omega) (by have := hbl v hv; omega)
    conv => whnf
    refine ⟨{ i : Nat // reachP body (n + 1) w l = (best.drop i).any fun v => reachP body n v rest }, fun i => St [(2, vP body), (8, vWs best), (11, vPo rest), (13, .sc (.int .i64 i.1))] [] [], fun i => best.length - i.1, ⟨0, hr⟩, ?_, ?_⟩
    · exact wk_of ⟨avle_refl _, avle_refl _, avle_refl _, avle_refl _, trivial⟩ trivial rfl ⟨trivial, trivial, trivial, trivial, trivial⟩
    rintro ⟨j, hinv⟩
    conv => whnf
    split
    case h_2 =>
      rename_i hlt
      have hlt : best.length ≤ j := by simpa using hlt
      rw [List.drop_of_length_le hlt] at hinv
      conv => whnf
      exact ⟨rfl, avb (hinv.trans rfl).symm⟩
    rename_i hlt
    have hlt : j < best.length := by simpa using hlt
    have hwrap : IntKind.i64.wrap ((j : Int) + 1) = ((j + 1 : Nat) : Int) := (wrap_small _ (by omega) (by omega)).trans (by omega)
    rw [any_drop _ _ _ hlt] at hinv
    have htk := take_cells (g := cWs) (n := 1) (fun _ => rfl) best j hlt
    have hir : (0 : Int) ≤ (j : Int) ∧ (j : Int) < best.length := ⟨Int.natCast_nonneg _, Int.ofNat_lt.2 hlt⟩
    have hc := hcall best[j] (List.getElem_mem hlt)
    generalize best[j] = v at hinv htk hc
    conv => whnf
    refine ⟨hir, _, htk, ?_⟩
    conv => whnf
    refine use_pure hc (nr3' (nr_vW _) (nr_vP _) (nr_vP _)) ⟨rfl, ?_⟩
    conv => whnf
    split
    · rename_i e
      have e : reachP body n v rest = true := e
      rw [e, Bool.true_or] at hinv
      conv => whnf
      exact ⟨rfl, avb hinv.symm⟩
    · rename_i e
      have e : reachP body n v rest = false := e
      rw [e, Bool.false_or] at hinv
      conv => whnf
      exact ⟨⟨j + 1, hinv⟩, wk_of ⟨avle_refl _, avle_refl _, avle_refl _, avle_int hwrap, trivial⟩ trivial rfl ⟨trivial, trivial, trivial, trivial, trivial⟩, Nat.sub_lt_sub_left hlt (Nat.lt_succ_self j)⟩
end Go.Proofs.YtjchgncgkhofhaaGreat.AL
/- The program's functions in abstract words: a clause's text (edictref01, edictref04): that there is one. -/
set_option linter.unusedVariables false
namespace Go.Proofs.YtjchgncgkhofhaaGreat.AL
open Go
attribute [local irreducible] PlainFn CallOk

/-- A call that answers some text, always the same. -/
def SOk (g : FuncId) (args : List AV) (B : Nat) : Prop := ∃ s : ByteArray, POk g args (.sc (.string s)) ∧ s.size ≤ B
theorem size_app (a b : ByteArray) : (a ++ b).size = a.size + b.size := ByteArray.size_append
theorem ok111 (op : Int) : SOk 111 [.sc (.int .i64 op)] 2 := by
  refine ⟨if op = 1 then ⟨#[61]⟩ else if op = 2 then ⟨#[33, 61]⟩ else if op = 3 then ⟨#[60]⟩ else if op = 4 then ⟨#[60, 61]⟩ else if op = 5 then ⟨#[62]⟩ else ⟨#[62, 61]⟩, ?_, by (repeat' split) <;> decide⟩
  refine fn_ok mixed (En_ok _ _ _ _) (pl := fun _ => []) (fn := Go.Proofs.Tryz.f111) (c := _) (by kernel_rfl) rfl (by decide) (by kernel_rfl) (E := E0) ?_
  repeat' ((conv => whnf); first
      | split)
  all_goals (conv => whnf)
  all_goals (refine ⟨rfl, ?_⟩)
  all_goals (first | (simp_all; done) | skip)
/-- One digit ahead. -/
def digB (m : Int) : UInt8 := UInt8.ofNat (48 + m.natAbs % 10)
theorem dig_val (m : Int) (hm : -9223372036854775808 ≤ m ∧ m ≤ 9223372036854775807) (d : Int) (hd : d = m.tmod 10 ∨ d = - m.tmod 10) (h0 : 0 ≤ d) : IntKind.u8.wrap (IntKind.i64.wrap (48 + d)) = ((digB m).toNat : Int) := by
  have h1 : d = ((m.natAbs % 10 : Nat) : Int) := by
    rcases Int.le_total 0 m with h | h
    · have : m.tmod 10 = ((m.natAbs % 10 : Nat) : Int) := by
        obtain ⟨k, rfl⟩ := Int.eq_ofNat_of_zero_le h; simp; rfl
      omega
    · obtain ⟨k, hk⟩ := Int.eq_ofNat_of_zero_le (a := -m) (by omega)
      have hmk : m = -(k : Int) := by omega
      subst hmk
      have : (-(k : Int)).tmod 10 = - ((k % 10 : Nat) : Int) := by rw [Int.neg_tmod]; rfl
      rw [this] at hd
      simp only [Int.natAbs_neg, Int.natAbs_natCast]
      omega
  have h2 : d ≤ 9 := by omega
  rw [wrap_small _ (by omega) (by omega)]
  have h3 : (digB m).toNat = 48 + m.natAbs % 10 := by
    unfold digB; rw [UInt8.toNat_ofNat']; omega
  rw [h3]
  have : IntKind.u8.wrap (48 + d) = 48 + d := by
    show (48 + d) % 256 = 48 + d
    omega
  rw [this]; omega
theorem wrap_in (n : Int) (h0 : -9223372036854775808 ≤ n) (h1 : n ≤ 9223372036854775807) : IntKind.i64.wrap n = n := by
  unfold IntKind.wrap
  simp [IntKind.bits, IntKind.signed]
  omega
def decF : Nat → Int → ByteArray → ByteArray
  | 0, _, s => s
  | k + 1, m, s => if m.tdiv 10 = 0 then ⟨#[digB m]⟩ ++ s else decF k (m.tdiv 10) (⟨#[digB m]⟩ ++ s)
theorem decF_size : ∀ (k : Nat) (m : Int) (s : ByteArray), (decF k m s).size ≤ s.size + k
  | 0, _, s => Nat.le_refl _
  | k + 1, m, s => by
    unfold decF; split
    · rw [size_app]; show 1 + s.size ≤ _; omega
    · have := decF_size k (m.tdiv 10) (⟨#[digB m]⟩ ++ s)
      rw [size_app] at this
      have h1 : (ByteArray.mk #[digB m]).size = 1 := rfl
      omega
theorem natAbs_tdiv (m : Int) : (m.tdiv 10).natAbs = m.natAbs / 10 := Int.natAbs_tdiv m 10
theorem tdiv_zero {m : Int} (h : m.natAbs < 10) : m.tdiv 10 = 0 := by
  have := natAbs_tdiv m; omega
set_option maxHeartbeats 1000000 in
theorem ok114 (n : Int) (hn : -9223372036854775808 ≤ n ∧ n ≤ 9223372036854775807) : SOk 114 [.sc (.int .i64 n)] 21 := by
  refine ⟨if n < 0 then ⟨#[45]⟩ ++ decF 20 n ⟨#[]⟩ else decF 20 n ⟨#[]⟩, ?_, by
    have := decF_size 20 n ⟨#[]⟩
    have h0 : (ByteArray.mk #[]).size = 0 := rfl
    split
    · rw [size_app]; show 1 + _ ≤ 21; omega
    · omega⟩
  refine fn_ok mixed (En_ok _ _ _ _) (pl := fun _ => []) (fn := Go.Proofs.Tryz.f114) (c := _) (by kernel_rfl) rfl (by decide) (by kernel_rfl) (E := E0) ?_
  conv => whnf
  refine ⟨{ p : Nat × Int × ByteArray // decF 20 n ⟨#[]⟩ = decF (p.1 + 1) p.2.1 p.2.2 ∧ p.2.1.natAbs < 10 ^ (p.1 + 1) ∧ p.2.2.size + p.1 ≤ 19 ∧ (-9223372036854775808 ≤ p.2.1 ∧ p.2.1 ≤ 9223372036854775807) }, fun p => St [(0, .sc (.int .i64 n)), (3, .sc (.string p.1.2.2)), (4, .sc (.int .i64 p.1.2.1))] [] [], fun p => p.1.1, ⟨(19, n, ⟨#[]⟩), rfl, by show n.natAbs < 10 ^ 20; omega, Nat.le_refl 19, hn⟩, ?_, ?_⟩
  · exact wk_of ⟨avle_refl _, avle_refl _, avle_refl _, trivial⟩ trivial rfl ⟨trivial, trivial, trivial, trivial⟩
  rintro ⟨⟨k, m, s⟩, h1, h2, h3, h4⟩
  simp only at h1 h2 h3 h4
  have hw : IntKind.i64.wrap (m.tdiv 10) = m.tdiv 10 := wrap_in _ (by have := natAbs_tdiv m; omega) (by have := natAbs_tdiv m; omega)
  have hs : (ByteArray.mk #[digB m]).size + s.size ≤ 9223372036854775807 := by show 1 + s.size ≤ _; omega
  have htm : -10 < m.tmod 10 ∧ m.tmod 10 < 10 := by
    have h1 := Int.tmod_lt_of_pos m (b := 10) (by omega)
    have h2 := Int.lt_tmod_of_pos m (b := 10) (by omega)
    omega
  have fin : ∀ d : Int, (d = m.tmod 10 ∨ d = - m.tmod 10) → 0 ≤ d → [AV.sc (.int .u8 (IntKind.u8.wrap (IntKind.i64.wrap (48 + d))))] = [digB m].map fun b => AV.sc (.int .u8 b.toNat) := by
    intro d hd h0
    rw [dig_val m h4 d hd h0]; rfl
  have stop : IntKind.i64.wrap (m.tdiv 10) = 0 → decF 20 n ⟨#[]⟩ = ⟨#[digB m]⟩ ++ s := by
    intro e; rw [hw] at e; rw [h1]; unfold decF; rw [if_pos e]
  have next : ¬ IntKind.i64.wrap (m.tdiv 10) = 0 → ∃ j, k = j + 1 ∧ decF 20 n ⟨#[]⟩ = decF (j + 1) (IntKind.i64.wrap (m.tdiv 10)) (⟨#[digB m]⟩ ++ s) ∧ (IntKind.i64.wrap (m.tdiv 10)).natAbs < 10 ^ (j + 1) ∧ (ByteArray.mk #[digB m] ++ s).size + j ≤ 19 ∧ (-9223372036854775808 ≤ IntKind.i64.wrap (m.tdiv 10) ∧ IntKind.i64.wrap (m.tdiv 10) ≤ 9223372036854775807) := by
    intro e
    rw [hw] at e ⊢
    cases k with
    | zero => exact absurd (tdiv_zero (by simpa using h2)) e
    | succ j =>
      refine ⟨j, rfl, ?_, ?_, ?_, ?_⟩
      · rw [h1]; conv => lhs; unfold decF
        rw [if_neg e]
      · rw [natAbs_tdiv]
        have : 10 ^ (j + 1 + 1) = 10 ^ (j + 1) * 10 := Nat.pow_succ ..
        omega
      · rw [size_app]; show 1 + s.size + j ≤ 19; omega
      · have := natAbs_tdiv m; omega
  generalize hR : (if n < 0 then (⟨#[45]⟩ : ByteArray) ++ decF 20 n ⟨#[]⟩ else decF 20 n ⟨#[]⟩) = Rr
  have last : ∀ (hq : IntKind.i64.wrap (m.tdiv 10) = 0), (n < 0 → Rr = ⟨#[45]⟩ ++ (⟨#[digB m]⟩ ++ s)) ∧ (¬ n < 0 → Rr = ⟨#[digB m]⟩ ++ s) := by
    intro hq
    rw [← hR, stop hq]
    exact ⟨fun h => by rw [if_pos h], fun h => by rw [if_neg h]⟩
  have hs2 : (ByteArray.mk #[45]).size + (⟨#[digB m]⟩ ++ s : ByteArray).size ≤ 9223372036854775807 := by rw [size_app]; show 1 + (1 + s.size) ≤ _; omega
  conv => whnf
  refine ⟨by decide, ?_⟩
  conv => whnf
  split
  · rename_i e
    have e : decide (m.tmod 10 < 0) = true := e
    have e := of_decide_eq_true e
    have hneg : IntKind.i64.wrap (0 - m.tmod 10) = - m.tmod 10 := by rw [wrap_in _ (by omega) (by omega)]; omega
    have hf := fin (IntKind.i64.wrap (0 - m.tmod 10)) (.inr hneg) (by rw [hneg]; omega)
    conv => whnf
    refine ⟨[digB m], hf, ?_⟩
    conv => whnf
    refine ⟨hs, ?_⟩
    conv => whnf
    refine ⟨by decide, ?_⟩
    conv => whnf
    split
    · rename_i q
      have q : decide (IntKind.i64.wrap (m.tdiv 10) = 0) = true := q
      have hl := last (of_decide_eq_true q)
      conv => whnf
      split
      · rename_i q2
        have q2 : decide (n < 0) = true := q2
        have hl := hl.1 (of_decide_eq_true q2)
        conv => whnf
        refine ⟨hs2, ?_⟩
        conv => whnf
        exact ⟨rfl, by rw [hl]⟩
      · rename_i q2
        have q2 : decide (n < 0) = false := q2
        have hl := hl.2 (of_decide_eq_false q2)
        conv => whnf
        exact ⟨rfl, by rw [hl]⟩
    · rename_i q
      have q : decide (IntKind.i64.wrap (m.tdiv 10) = 0) = false := q
      obtain ⟨j, rfl, hn⟩ := next (of_decide_eq_false q)
      conv => whnf
      exact ⟨⟨(j, _, _), hn⟩, wk_of ⟨avle_refl _, avle_refl _, avle_refl _, trivial⟩ trivial rfl ⟨trivial, trivial, trivial, trivial⟩, Nat.lt_succ_self j⟩
  · rename_i e
    have e : decide (m.tmod 10 < 0) = false := e
    have e := of_decide_eq_false e
    have hf := fin (m.tmod 10) (.inl rfl) (by omega)
    conv => whnf
    refine ⟨[digB m], hf, ?_⟩
    conv => whnf
    refine ⟨hs, ?_⟩
    conv => whnf
    refine ⟨by decide, ?_⟩
    conv => whnf
    split
    · rename_i q
      have q : decide (IntKind.i64.wrap (m.tdiv 10) = 0) = true := q
      have hl := last (of_decide_eq_true q)
      conv => whnf
      split
      · rename_i q2
        have q2 : decide (n < 0) = true := q2
        have hl := hl.1 (of_decide_eq_true q2)
        conv => whnf
        refine ⟨hs2, ?_⟩
        conv => whnf
        exact ⟨rfl, by rw [hl]⟩
      · rename_i q2
        have q2 : decide (n < 0) = false := q2
        have hl := hl.2 (of_decide_eq_false q2)
        conv => whnf
        exact ⟨rfl, by rw [hl]⟩
    · rename_i q
      have q : decide (IntKind.i64.wrap (m.tdiv 10) = 0) = false := q
      obtain ⟨j, rfl, hn⟩ := next (of_decide_eq_false q)
      conv => whnf
      exact ⟨⟨(j, _, _), hn⟩, wk_of ⟨avle_refl _, avle_refl _, avle_refl _, trivial⟩ trivial rfl ⟨trivial, trivial, trivial, trivial⟩, Nat.lt_succ_self j⟩
def hexB : ByteArray := ⟨#[48, 49, 50, 51, 52, 53, 54, 55, 56, 57, 97, 98, 99, 100, 101, 102]⟩
def hexAt (k : Nat) : UInt8 := hexB.toList.getD k 0
theorem idxH {i : Int} {k : Nat} {K : UInt8 → Prop} (hi : i = (k : Int)) (hk : k < 16) (h : K (hexAt k)) : ((0 : Int) ≤ i ∧ i < hexB.size) ∧ ∃ c, hexB[i.toNat]? = some c ∧ K c := by
  subst hi
  have hl : k < hexB.toList.length := by rw [size_toList]; exact hk
  refine ⟨⟨Int.natCast_nonneg _, Int.ofNat_lt.2 hk⟩, hexAt k, ?_, h⟩
  rw [Int.toNat_natCast, get_byte hl]
  unfold hexAt
  rw [List.getD_eq_getElem?_getD, List.getElem?_eq_getElem hl]; rfl
/-- edictref01.letter -/
def letB (b : UInt8) : ByteArray := if (b.toNat : Int) = 34 then ⟨#[92, 34]⟩ else if (b.toNat : Int) = 92 then ⟨#[92, 92]⟩ else if (b.toNat : Int) = 10 then ⟨#[92, 110]⟩ else if (b.toNat : Int) = 9 then ⟨#[92, 116]⟩ else if (b.toNat : Int) = 13 then ⟨#[92, 114]⟩ else
  if (b.toNat : Int) ≥ 32 ∧ (b.toNat : Int) ≤ 126 then ⟨[b].toArray⟩ else ⟨[92, 120, hexAt (b.toNat / 16), hexAt (b.toNat % 16)].toArray⟩
theorem letB_size (b : UInt8) : (letB b).size ≤ 4 := by
  unfold letB
  split; · decide
  split; · decide
  split; · decide
  split; · decide
  split; · decide
  split
  · show 1 ≤ 4; decide
  · show 4 ≤ 4; decide
theorem ok115 (b : UInt8) : POk 115 [.sc (.int .u8 b.toNat)] (.sc (.string (letB b))) := by
  have hb := b.toNat_lt
  have hq : IntKind.u8.wrap ((b.toNat : Int).tdiv 16) = ((b.toNat / 16 : Nat) : Int) := by
    have h1 : (b.toNat : Int).tdiv 16 = ((b.toNat / 16 : Nat) : Int) := rfl
    rw [h1]
    show ((b.toNat / 16 : Nat) : Int) % 256 = _
    omega
  have hr : (b.toNat : Int).tmod 16 = ((b.toNat % 16 : Nat) : Int) := rfl
  refine fn_ok mixed (En_ok _ _ _ _) (pl := fun _ => (List.range 9).map Pl.one) (fn := Go.Proofs.Tryz.f115) (c := _) (by kernel_rfl) rfl (by decide) (by kernel_rfl) (E := E0) ?_
  repeat' ((conv => whnf); first
      | refine Exists.intro [b] (And.intro rfl ?_)
      | refine Exists.intro [92, 120, hexAt (b.toNat / 16), hexAt (b.toNat % 16)] (And.intro rfl ?_)
      | refine And.intro (show (16 : Int) ≠ 0 from by decide) ?_
      | refine idxH (k := b.toNat / 16) hq (by omega) ?_
      | refine idxH (k := b.toNat % 16) hr (by omega) ?_
      | refine And.intro (by kernel_rfl) ?_
      | split)
  all_goals (clear hq hr)
  all_goals (first | (simp_all [letB]; done) | (simp_all [letB]; omega) | skip)
end Go.Proofs.YtjchgncgkhofhaaGreat.AL
/- The program's functions in abstract words: a clause's text (edictref04): terms, atoms. -/
set_option linter.unusedVariables false
namespace Go.Proofs.YtjchgncgkhofhaaGreat.AL
open Go
attribute [local irreducible] PlainFn CallOk

def rngT (t : Tm) : Prop := -9223372036854775808 ≤ t.num ∧ t.num ≤ 9223372036854775807
def quoB : ByteArray := ⟨#[34]⟩
def letsA : ByteArray → List UInt8 → ByteArray
  | s, [] => s
  | s, b :: r => letsA (s ++ letB b) r
theorem letsA_size : ∀ (l : List UInt8) (s : ByteArray), (letsA s l).size ≤ s.size + 4 * l.length
  | [], s => Nat.le_refl _
  | b :: r, s => by
    have h1 := letsA_size r (s ++ letB b)
    have h2 := letB_size b
    rw [size_app] at h1
    show (letsA (s ++ letB b) r).size ≤ _
    simp only [List.length_cons]; omega
theorem letsA_drop (s : ByteArray) (l : List UInt8) (i : Nat) (h : i < l.length) : letsA s (l.drop i) = letsA (s ++ letB l[i]) (l.drop (i + 1)) := by
  rw [List.drop_eq_getElem_cons h]; rfl
set_option maxHeartbeats 1000000 in
theorem ok110 (t : Tm) (hv : validP t = true) (hr : rngT t) : SOk 110 [aC t] 1030 := by
  by_cases k1 : t.kind = 1
  · obtain ⟨s, hs, hsz⟩ := ok114 t.num hr
    refine ⟨s, ?_, by omega⟩
    refine fn_ok mixed (En_ok _ _ _ _) (pl := fun _ => []) (fn := Go.Proofs.Tryz.f110) (c := _) (by kernel_rfl) rfl (by decide) (by kernel_rfl) (E := E0) ?_
    conv => whnf
    refine use_pure (ok58 t) rfl ⟨rfl, ?_⟩
    rw [hv]
    conv => whnf
    split
    case h_2 => rename_i e; exact absurd (of_decide_eq_false e) (fun h => h k1)
    conv => whnf
    refine use_pure hs rfl ⟨rfl, ?_⟩
    conv => whnf
    exact ⟨rfl, rfl⟩
  by_cases k2 : t.kind = 2
  · have hsz : t.text.size ≤ 64 := by
      unfold validP at hv; rw [if_neg k1, if_pos k2] at hv
      simp only [Bool.and_eq_true] at hv; exact name_size hv.2
    refine ⟨t.text, ?_, by omega⟩
    refine fn_ok mixed (En_ok _ _ _ _) (pl := fun _ => []) (fn := Go.Proofs.Tryz.f110) (c := _) (by kernel_rfl) rfl (by decide) (by kernel_rfl) (E := E0) ?_
    conv => whnf
    refine use_pure (ok58 t) rfl ⟨rfl, ?_⟩
    rw [hv]
    conv => whnf
    split
    case h_1 => rename_i e; exact absurd (of_decide_eq_true e) k1
    conv => whnf
    split
    case h_2 => rename_i e; exact absurd (of_decide_eq_false e) (fun h => h k2)
    conv => whnf
    exact ⟨rfl, rfl⟩
  have hsz : t.text.size ≤ 255 := by
    unfold validP at hv; rw [if_neg k1, if_neg k2] at hv
    split at hv
    · simp only [Bool.and_eq_true, decide_eq_true_eq] at hv; exact hv.2
    · cases hv
  have htl := size_toList t.text
  have hl1 := letsA_size t.text.toList quoB
  have hq : quoB.size = 1 := rfl
  refine ⟨letsA quoB t.text.toList ++ quoB, ?_, by rw [size_app]; omega⟩
  refine fn_ok mixed (En_ok _ _ _ _) (pl := fun _ => []) (fn := Go.Proofs.Tryz.f110) (c := _) (by kernel_rfl) rfl (by decide) (by kernel_rfl) (E := E0) ?_
  conv => whnf
  refine use_pure (ok58 t) rfl ⟨rfl, ?_⟩
  rw [hv]
  conv => whnf
  split
  case h_1 => rename_i e; exact absurd (of_decide_eq_true e) k1
  conv => whnf
  split
  case h_1 => rename_i e; exact absurd (of_decide_eq_true e) k2
  conv => whnf
  refine ⟨{ p : Nat × ByteArray // letsA quoB t.text.toList = letsA p.2 (t.text.toList.drop p.1) ∧ p.2.size ≤ 1 + 4 * p.1 }, fun p => St [(1, .pp (.loc 1) 0), (3, .sc (.string p.1.2)), (4, .sc (.int .i64 p.1.1))] [(1, .cells 0 [.sc (.int .i64 t.kind), .sc (.int .i64 t.num), .sc (.string t.text)])] [], fun p => t.text.size - p.1.1, ⟨(0, quoB), rfl, Nat.le_refl _⟩, ?_, ?_⟩
  · exact wk_of ⟨avle_refl _, avle_refl _, avle_refl _, trivial⟩ ⟨oble_refl _, trivial⟩ rfl ⟨trivial, trivial, trivial, trivial⟩
  rintro ⟨⟨i, s⟩, h1, h2⟩
  simp only at h1 h2
  conv => whnf
  split
  · rename_i hlt
    have hlt : i < t.text.size := by simpa using hlt
    have hlt' : i < t.text.toList.length := by rw [size_toList]; exact hlt
    have hwrap : IntKind.i64.wrap ((i : Int) + 1) = ((i + 1 : Nat) : Int) := (wrap_small _ (by omega) (by omega)).trans (by omega)
    have hb := get_byte hlt'
    rw [letsA_drop _ _ _ hlt'] at h1
    generalize t.text.toList[i] = b at h1 hb
    have hlb := letB_size b
    conv => whnf
    refine ⟨⟨Int.natCast_nonneg _, Int.ofNat_lt.2 hlt⟩, b, hb, ?_⟩
    conv => whnf
    refine use_pure (ok115 b) rfl ⟨rfl, ?_⟩
    conv => whnf
    refine ⟨by show s.size + (letB b).size ≤ _; omega, ?_⟩
    conv => whnf
    exact ⟨⟨(i + 1, s ++ letB b), h1, by show (s ++ letB b).size ≤ 1 + 4 * (i + 1); rw [size_app]; omega⟩, wk_of ⟨avle_refl _, avle_refl _, avle_int hwrap, trivial⟩ ⟨oble_refl _, trivial⟩ rfl ⟨trivial, trivial, trivial, trivial⟩, Nat.sub_lt_sub_left hlt (Nat.lt_succ_self i)⟩
  · rename_i hlt
    have hlt : t.text.size ≤ i := by simpa using hlt
    rw [List.drop_of_length_le (by rw [size_toList]; exact hlt)] at h1
    have h1 : letsA quoB t.text.toList = s := h1
    have hfin : s.size + (ByteArray.mk #[34]).size ≤ 9223372036854775807 := by rw [← h1]; show _ + 1 ≤ _; omega
    have hres : AV.sc (.string (s ++ ⟨#[34]⟩)) = .sc (.string (letsA quoB t.text.toList ++ quoB)) := by rw [h1]; rfl
    conv => whnf
    refine ⟨hfin, ?_⟩
    conv => whnf
    exact ⟨rfl, hres⟩
theorem ok95 (t : Tm) (hv : termP t = 0) (hr : rngT t) : SOk 95 [aT t] 1030 := by
  by_cases k1 : t.kind = 4
  · have hsz : t.text.size ≤ 64 := by
      unfold termP at hv; rw [if_pos k1] at hv
      split at hv
      · rename_i h; have := h.2; simp [varP] at this; omega
      · cases hv
    refine ⟨t.text, ?_, by omega⟩
    refine fn_ok mixed (En_ok _ _ _ _) (pl := fun _ => []) (fn := Go.Proofs.Tryz.f95) (c := _) (by kernel_rfl) rfl (by decide) (by kernel_rfl) (E := E0) ?_
    conv => whnf
    refine use_pure (ok75 t) rfl ⟨rfl, ?_⟩
    rw [hv]
    conv => whnf
    split
    case h_2 => rename_i e; exact absurd (of_decide_eq_false e) (fun h => h k1)
    conv => whnf
    exact ⟨rfl, rfl⟩
  · have hv2 : validP t = true := by
      unfold termP at hv; rw [if_neg k1] at hv
      split at hv
      · assumption
      · cases hv
    obtain ⟨s, hs, hsz⟩ := ok110 t hv2 hr
    refine ⟨s, ?_, hsz⟩
    refine fn_ok mixed (En_ok _ _ _ _) (pl := fun _ => []) (fn := Go.Proofs.Tryz.f95) (c := _) (by kernel_rfl) rfl (by decide) (by kernel_rfl) (E := E0) ?_
    conv => whnf
    refine use_pure (ok75 t) rfl ⟨rfl, ?_⟩
    rw [hv]
    conv => whnf
    split
    case h_1 => rename_i e; exact absurd (of_decide_eq_true e) k1
    conv => whnf
    refine use_pure hs rfl ⟨rfl, ?_⟩
    conv => whnf
    exact ⟨rfl, rfl⟩
def commaB : ByteArray := ⟨#[44, 32]⟩
def listA : ByteArray → Nat → List ByteArray → ByteArray
  | s, _, [] => s
  | s, i, x :: r => listA ((if i > 0 then s ++ commaB else s) ++ x) (i + 1) r
theorem listA_drop (s : ByteArray) (l : List ByteArray) (i : Nat) (h : i < l.length) : listA s i (l.drop i) = listA ((if i > 0 then s ++ commaB else s) ++ l[i]) (i + 1) (l.drop (i + 1)) := by
  rw [List.drop_eq_getElem_cons h]; rfl
theorem listA_size (B : Nat) : ∀ (l : List ByteArray) (s : ByteArray) (i : Nat), (∀ x ∈ l, x.size ≤ B) → (listA s i l).size ≤ s.size + l.length * (B + 2)
  | [], s, i, _ => by simp [listA]
  | x :: r, s, i, h => by
    have h1 := listA_size B r ((if i > 0 then s ++ commaB else s) ++ x) (i + 1) fun y hy => h y (List.mem_cons_of_mem _ hy)
    have h2 := h x List.mem_cons_self
    have h3 : ((if i > 0 then s ++ commaB else s) ++ x).size ≤ s.size + 2 + B := by
      rw [size_app]
      split
      · rw [size_app]; show s.size + 2 + x.size ≤ _; omega
      · omega
    show (listA _ (i + 1) r).size ≤ _
    rw [List.length_cons, Nat.succ_mul]; omega
def cS (s : ByteArray) : List AV := [.sc (.string s)]
def vS (l : List ByteArray) : AV := .vec false 1 l.length (l.flatMap cS)
def vSo (l : List ByteArray) : AV := .vec true 1 l.length (l.flatMap cS)
theorem nr_vS (l : List ByteArray) : nr (vS l) = true := nrL_flat (fun _ => rfl) l
theorem vSo_app (a : List ByteArray) (s : ByteArray) : vSo (a ++ [s]) = .vec true 1 (a.length + 1) (a.flatMap cS ++ [.sc (.string s)]) := by simp [vSo, cS]
theorem ok98 (l : List ByteArray) (B : Nat) (hB : ∀ x ∈ l, x.size ≤ B) (hl : l.length * (B + 2) ≤ 1000000) (hn : l.length ≤ 1000000) : POk 98 [vS l] (.sc (.string (listA ⟨#[]⟩ 0 l))) := by
  refine fn_ok mixed (En_ok _ _ _ _) (pl := fun _ => []) (fn := Go.Proofs.Tryz.f98) (c := _) (by kernel_rfl) rfl (by decide) (by kernel_rfl) (E := E0) ?_
  conv => whnf
  refine ⟨{ p : Nat × ByteArray // listA ⟨#[]⟩ 0 l = listA p.2 p.1 (l.drop p.1) ∧ p.2.size ≤ p.1 * (B + 2) }, fun p => St [(0, vS l), (3, .sc (.string p.1.2)), (4, .sc (.int .i64 p.1.1))] [] [], fun p => l.length - p.1.1, ⟨(0, ⟨#[]⟩), rfl, by show 0 ≤ _; omega⟩, ?_, ?_⟩
  · exact wk_of ⟨avle_refl _, avle_refl _, avle_refl _, trivial⟩ trivial rfl ⟨trivial, trivial, trivial, trivial⟩
  rintro ⟨⟨i, s⟩, h1, h2⟩
  simp only at h1 h2
  conv => whnf
  split
  · rename_i hlt
    have hlt : i < l.length := by simpa using hlt
    have hwrap : IntKind.i64.wrap ((i : Int) + 1) = ((i + 1 : Nat) : Int) := (wrap_small _ (by omega) (by omega)).trans (by omega)
    rw [listA_drop _ _ _ hlt] at h1
    have htk := take_cells (g := cS) (n := 1) (fun _ => rfl) l i hlt
    have hir : (0 : Int) ≤ (i : Int) ∧ (i : Int) < l.length := ⟨Int.natCast_nonneg _, Int.ofNat_lt.2 hlt⟩
    have hx := hB l[i] (List.getElem_mem hlt)
    have hmul : i * (B + 2) + (B + 2) ≤ 1000000 := by
      have : (i + 1) * (B + 2) ≤ l.length * (B + 2) := Nat.mul_le_mul_right _ hlt
      rw [Nat.succ_mul] at this; omega
    have hmul2 : (i + 1) * (B + 2) = i * (B + 2) + (B + 2) := Nat.succ_mul _ _
    generalize l[i] = x at h1 htk hx
    conv => whnf
    split
    · rename_i e
      have e : decide ((i : Int) > 0) = true := e
      have e : i > 0 := by have := of_decide_eq_true e; omega
      rw [if_pos e] at h1
      conv => whnf
      refine ⟨by show s.size + 2 ≤ _; omega, ?_⟩
      conv => whnf
      refine ⟨hir, _, htk, ?_⟩
      conv => whnf
      refine ⟨by rw [size_app]; show s.size + 2 + x.size ≤ _; omega, ?_⟩
      conv => whnf
      exact ⟨⟨(i + 1, s ++ commaB ++ x), h1, by show (s ++ commaB ++ x).size ≤ (i + 1) * (B + 2); rw [size_app, size_app]; show s.size + 2 + x.size ≤ _; omega⟩, wk_of ⟨avle_refl _, avle_refl _, avle_int hwrap, trivial⟩ trivial rfl ⟨trivial, trivial, trivial, trivial⟩, Nat.sub_lt_sub_left hlt (Nat.lt_succ_self i)⟩
    · rename_i e
      have e : decide ((i : Int) > 0) = false := e
      have e : ¬ i > 0 := by have := of_decide_eq_false e; omega
      rw [if_neg e] at h1
      conv => whnf
      refine ⟨hir, _, htk, ?_⟩
      conv => whnf
      refine ⟨by show s.size + x.size ≤ _; omega, ?_⟩
      conv => whnf
      exact ⟨⟨(i + 1, s ++ x), h1, by show (s ++ x).size ≤ (i + 1) * (B + 2); rw [size_app]; omega⟩, wk_of ⟨avle_refl _, avle_refl _, avle_int hwrap, trivial⟩ trivial rfl ⟨trivial, trivial, trivial, trivial⟩, Nat.sub_lt_sub_left hlt (Nat.lt_succ_self i)⟩
  · rename_i hlt
    have hlt : l.length ≤ i := by simpa using hlt
    rw [List.drop_of_length_le hlt] at h1
    have hres : AV.sc (.string s) = .sc (.string (listA ⟨#[]⟩ 0 l)) := by rw [h1]; rfl
    conv => whnf
    exact ⟨rfl, hres⟩
end Go.Proofs.YtjchgncgkhofhaaGreat.AL
