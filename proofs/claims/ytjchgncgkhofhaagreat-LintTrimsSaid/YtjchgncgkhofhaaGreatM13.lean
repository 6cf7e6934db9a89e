/- The program's functions in abstract words: Look (edictref18). -/
import Derived.Test.YtjchgncgkhofhaaGreatM12
set_option linter.unusedVariables false
namespace Go.Proofs.YtjchgncgkhofhaaGreat.AL
open Go
attribute [local irreducible] PlainFn CallOk

def noB : ByteArray := ⟨#[]⟩
def othF (i : Nat) (c : Cl) (tw cv : Int) : List Fd := if tw ≥ 0 then [⟨1, i, tw, c.head.off, noB⟩] else if cv ≥ 0 then [⟨2, i, cv, c.head.off, noB⟩] else []
def offAt (ls : List Lt) (k : Int) : Int := match ls[k.toNat]? with | some l => l.off | none => 0
def nevF (i : Nat) (c : Cl) (k : Int) : List Fd := if k ≥ 0 then [⟨3, i, -1, offAt c.body k, noB⟩] else []
def idlF (i : Nat) (idle : Lt → Bool) (l : Lt) : List Fd := if idle l = true then [⟨5, i, -1, l.off, noB⟩] else []
def unuF (i : Nat) (c : Cl) (un : Bool) : List Fd := if un = true then [⟨6, i, -1, c.head.off, c.head.pred⟩] else []
/-- All findings of one clause. -/
def findG (i : Nat) (c : Cl) (tw cv k : Int) (idle : Lt → Bool) (un : Bool) : List Fd := othF i c tw cv ++ nevF i c k ++ singP (allT c) i ++ c.body.flatMap (idlF i idle) ++ unuF i c un
def lookG (f : Nat → Cl → List Fd) : List Cl → Nat → List Fd
  | [], _ => []
  | c :: r, i => f i c ++ lookG f r (i + 1)
theorem lookG_drop (f : Nat → Cl → List Fd) (l : List Cl) (i : Nat) (h : i < l.length) : lookG f (l.drop i) i = f i l[i] ++ lookG f (l.drop (i + 1)) (i + 1) := by
  rw [List.drop_eq_getElem_cons h]; rfl
theorem flatMap_len {α : Type} (f : α → List Fd) (h : ∀ x, (f x).length ≤ 1) (l : List α) : (l.flatMap f).length ≤ l.length := by
  induction l with
  | nil => simp
  | cons x l ih => have := h x; simp only [List.flatMap_cons, List.length_append, List.length_cons]; omega
theorem sing_len (ts : List Tm) (n : Int) : (singP ts n).length ≤ ts.length := flatMap_len _ (fun t => by unfold singF; split <;> simp) ts
theorem oth_len (i : Nat) (c : Cl) (tw cv : Int) : (othF i c tw cv).length ≤ 1 := by
  unfold othF; split
  · simp
  · split <;> simp
theorem nev_len (i : Nat) (c : Cl) (k : Int) : (nevF i c k).length ≤ 1 := by unfold nevF; split <;> simp
theorem unu_len (i : Nat) (c : Cl) (un : Bool) : (unuF i c un).length ≤ 1 := by unfold unuF; split <;> simp
theorem idl_len (i : Nat) (idle : Lt → Bool) (ls : List Lt) : (ls.flatMap (idlF i idle)).length ≤ ls.length := flatMap_len _ (fun t => by unfold idlF; split <;> simp) ls
theorem idx_range {α : Type} (f : α → Bool) : ∀ (l : List α) (i : Nat), idxP f l i = -1 ∨ ∃ j, j < l.length ∧ idxP f l i = ((i + j : Nat) : Int)
  | [], _ => .inl rfl
  | x :: l, i => by
    unfold idxP
    split
    · exact .inr ⟨0, by simp, by simp⟩
    · rcases idx_range f l (i + 1) with h | ⟨j, h1, h2⟩
      · exact .inl h
      · exact .inr ⟨j + 1, by simp; omega, by rw [h2]; omega⟩
theorem args_small {c : Cl} (h : Gd c) : ∀ m ∈ c.body, m.atom.args.length ≤ 9223372036854775807 := by
  intro m hm
  have h1 := (clause_zero h.1).2.2 m hm
  unfold litP at h1
  split at h1
  · split at h1
    · cases h1
    · have := (atom_zero h1).2.1; omega
  · split at h1
    · split at h1
      · cases h1
      · omega
    · cases h1
/-- A variable has a name. -/
theorem term_text {t : Tm} (h : termP t = 0) (hv : isVar t = true) : 1 ≤ t.text.size := by
  have hk : t.kind = 4 := of_decide_eq_true hv
  unfold termP at h
  rw [if_pos hk] at h
  split at h
  · rename_i q; have := q.2; simp [varP] at this; omega
  · cases h
theorem lit_terms {l : Lt} (h : litP l = 0) : ∀ t ∈ termsL l, termP t = 0 := by
  intro t ht
  unfold litP at h
  unfold termsL at ht
  split at h
  · rename_i k
    rw [if_neg (by omega)] at ht
    split at h
    · cases h
    · exact (atom_zero h).2.2 t ht
  · split at h
    · rename_i k
      rw [if_pos k] at ht
      split at h
      · cases h
      · exact first_zero _ _ h t ht
    · cases h
theorem Gd.terms {c : Cl} (h : Gd c) : ∀ t ∈ allT c, termP t = 0 := by
  intro t ht
  have hc := clause_zero h.1
  rcases List.mem_append.1 ht with ht | ht
  · exact (atom_zero hc.1).2.2 t ht
  · obtain ⟨l, hl, ht⟩ := List.mem_flatMap.1 ht
    exact lit_terms (hc.2.2 l hl) t ht
theorem Gd.texts {c : Cl} (h : Gd c) : ∀ t ∈ allT c, isVar t = true → 1 ≤ t.text.size := fun t ht => term_text (h.terms t ht)
theorem Gd.ok16 {c : Cl} (h : Gd c) (i : Int) : POk 16 [aCl c, .sc (.int .i64 i)] (vF (singP (allT c) i)) := AL.ok16 c i (by have := h.all; omega) (by have := h.body; omega) h.texts
theorem Gd.ok22 {c : Cl} (h : Gd c) (i : Int) : POk 22 [aCl c, .sc (.int .i64 i)] (vF (singP (allT c) i)) := AL.ok22 c i (by have := h.all; omega) (by have := h.body; omega) h.texts
theorem Gd.ok15 {c : Cl} (h : Gd c) : POk 15 [aCl c] (.sc (.int .i64 (idxP (faultR c.body) c.body 0))) := AL.ok15 c (by have := h.body; omega) (args_small h)
theorem Gd.ok21 {c : Cl} (h : Gd c) : POk 21 [aCl c] (.sc (.int .i64 (idxP (faultL c.body) c.body 0))) := AL.ok21 c (by have := h.body; omega) (args_small h)
def findR (p : List Cl) (i : Nat) (c : Cl) : List Fd := findG i c (twP p i c) (cvP p i c) (idxP (faultR c.body) c.body 0) (fun l => decide (verdP l > 0)) (unusedP p i c)
theorem findG_len {c : Cl} (h : Gd c) (i : Nat) (tw cv k : Int) (idle : Lt → Bool) (un : Bool) : (findG i c tw cv k idle un).length ≤ 160 := by
  have h1 := oth_len i c tw cv
  have h2 := nev_len i c k
  have h3 := sing_len (allT c) i
  have h4 := idl_len i idle c.body
  have h5 := unu_len i c un
  have h6 := h.all
  have h7 := h.body
  simp only [findG, List.length_append]; omega
/-- edictref18.Look -/
def lookR (p : List Cl) : List Fd := lookG (findR p) p 0
theorem well_zero {p : List Cl} (h : wellP p = 0) : p.length ≤ 512 ∧ ∀ c ∈ p, clauseP c = 0 := by
  unfold wellP at h
  split at h
  · cases h
  · exact ⟨by omega, first_zero _ _ h⟩
theorem vFo_eq (l : List Fd) {n : Nat} {cs : List AV} (h1 : n = l.length) (h2 : cs = l.flatMap cF) : vFo l = .vec true 5 n cs := by rw [h1, h2]; rfl
theorem vF_nil (g : Nat) (p : List Cl) (h : POkV g [aP p] false 5 0 []) : POk g [aP p] (vF []) := POk.of_v h rfl
theorem ok6n (p : List Cl) (hw : ¬ wellP p = 0) : POk 6 [aP p] (vF []) := by
  refine vF_nil _ _ ?_
  refine fn_ok mixed (En_ok _ _ _ _) (pl := fun _ => []) (fn := Go.Proofs.Tryz.f6) (c := _) (by kernel_rfl) rfl (by decide) (by kernel_rfl) (E := E0) ?_
  conv => whnf
  refine use_pure (ok12 p) (nr1 (nr_aP _)) ⟨rfl, ?_⟩
  conv => whnf
  split
  case h_2 =>
    rename_i e
    have e : (!decide (wellP p = 0)) = false := e
    simp [hw] at e
  conv => whnf
  exact avle_nil _ _
set_option maxHeartbeats 4000000 in
theorem ok6 (p : List Cl) (hw : wellP p = 0) (hr : ∀ c ∈ p, clauseR c) : POk 6 [aP p] (vF (lookR p)) := by
  obtain ⟨hlen, hcl⟩ := well_zero hw
  have hg : ∀ c ∈ p, Gd c := fun c hc => ⟨hcl c hc, hr c hc⟩
  refine POk.of_v ?_ (nrL_flat (fun _ => rfl) _)
  refine fn_ok mixed (En_ok _ _ _ _) (pl := fun _ => []) (fn := Go.Proofs.Tryz.f6) (c := _) (by kernel_rfl) rfl (by decide) (by kernel_rfl) (E := E0) ?_
  conv => whnf
  refine use_pure (ok12 p) (nr1 (nr_aP _)) ⟨rfl, ?_⟩
  rw [hw]
  conv => whnf
  refine ⟨{ q : Nat × List Fd // lookR p = q.2 ++ lookG (findR p) (p.drop q.1) q.1 ∧ q.2.length ≤ q.1 * 160 ∧ q.1 ≤ p.length }, fun q => St [(1, .pp (.loc 1) 0), (3, vFo q.1.2), (4, .sc (.int .i64 q.1.1))] [(1, .cells 0 [vC p])] [], fun q => p.length - q.1.1, ⟨(0, []), rfl, Nat.le_refl _, Nat.zero_le _⟩, ?_, ?_⟩
  · exact wk_of ⟨avle_refl _, avle_nil _ _, avle_refl _, trivial⟩ ⟨oble_refl _, trivial⟩ rfl ⟨trivial, trivial, trivial, trivial⟩
  rintro ⟨⟨i, out⟩, h1, h2, h3⟩
  simp only at h1 h2 h3
  conv => whnf
  split
  case h_2 =>
    rename_i hlt
    have hlt : p.length ≤ i := by simpa using hlt
    rw [List.drop_of_length_le hlt] at h1
    have h1 : lookR p = out := by rw [h1]; simp [lookG]
    have hres : avle (.vec false 5 out.length (out.flatMap cF)) (vF (lookR p)) := by rw [h1]; exact avle_refl _
    conv => whnf
    exact hres
  rename_i hlt
  have hlt : i < p.length := by simpa using hlt
  have hwrap : IntKind.i64.wrap ((i : Int) + 1) = ((i + 1 : Nat) : Int) := (wrap_small _ (by omega) (by omega)).trans (by omega)
  rw [lookG_drop _ _ _ hlt] at h1
  have htk := take_cells (g := cC) (n := 4) (fun _ => rfl) p i hlt
  have hir : (0 : Int) ≤ (i : Int) ∧ (i : Int) < p.length := ⟨Int.natCast_nonneg _, Int.ofNat_lt.2 hlt⟩
  have hgc := hg p[i] (List.getElem_mem hlt)
  have h18 := ok18 p i hlt (by omega) (fun c hc => by have := (hg c hc).body; omega)
  have hpi : p[i]? = some p[i] := List.getElem?_eq_getElem hlt
  generalize p[i] = c at h1 htk hgc hpi h18
  have h13 := ok13 p i c hg (by omega) hpi
  have h14 := ok14 p i c hg (by omega) hpi
  have hfr : findR p i c = findG i c (twP p i c) (cvP p i c) (idxP (faultR c.body) c.body 0) (fun l => decide (verdP l > 0)) (unusedP p i c) := rfl
  have hrange := idx_range (faultR c.body) c.body 0
  have hflen := findG_len hgc i (twP p i c) (cvP p i c) (idxP (faultR c.body) c.body 0) (fun l => decide (verdP l > 0)) (unusedP p i c)
  rw [hfr] at h1
  have h15 := hgc.ok15
  have h16 := hgc.ok16 i
  have hbl := hgc.body
  have hsl := sing_len (allT c) i
  have hal := hgc.all
  generalize idxP (faultR c.body) c.body 0 = k at *
  generalize twP p i c = tw at *
  generalize cvP p i c = cv at *
  generalize unusedP p i c = un at *
  clear hfr hpi
  have hob : out.length ≤ 81920 := by omega
  conv => whnf
  refine ⟨hir, _, htk, ?_⟩
  conv => whnf
  refine use_pure h13 (nr2 (nr_vC _) rfl) ⟨rfl, ?_⟩
  conv => whnf
  split
  · rename_i e
    have e : decide (tw ≥ 0) = true := e
    have hoth : othF i c tw cv = [⟨1, i, tw, c.head.off, noB⟩] := by rw [othF, if_pos (of_decide_eq_true e)]
    conv => whnf
    refine ⟨⟨by show out.length + 1 ≤ _; omega, by show (out.length + 1) * 48 ≤ _; omega, rfl⟩, ?_⟩
    conv => whnf
    refine use_pure h15 (nr1 (nr_aCl _)) ⟨rfl, ?_⟩
    conv => whnf
    split
    · rename_i e
      have e : decide (k ≥ 0) = true := e
      have e := of_decide_eq_true e
      obtain ⟨j, hj, rfl⟩ : ∃ j, j < c.body.length ∧ k = (j : Int) := by
        rcases hrange with h | ⟨j, h1, h2⟩
        · omega
        · exact ⟨j, h1, by rw [h2, Nat.zero_add]⟩
      have htkj := take_cells (g := cL) (n := 14) (fun _ => rfl) c.body j hj
      have hirj : (0 : Int) ≤ (j : Int) ∧ (j : Int) < c.body.length := ⟨Int.natCast_nonneg _, Int.ofNat_lt.2 hj⟩
      have hnev : nevF i c (j : Int) = [⟨3, i, -1, c.body[j].off, noB⟩] := by
        have : offAt c.body (j : Int) = c.body[j].off := by unfold offAt; rw [Int.toNat_natCast, List.getElem?_eq_getElem hj]
        rw [nevF, if_pos e, this]
      generalize c.body[j] = m at htkj hnev
      conv => whnf
      refine ⟨hirj, _, htkj, ?_⟩
      conv => whnf
      refine ⟨⟨by show out.length + 1 + 1 ≤ _; omega, by show (out.length + 1 + 1) * 48 ≤ _; omega, rfl⟩, ?_⟩
      have hslot : vFo (out ++ [(⟨1, i, tw, c.head.off, noB⟩ : Fd)] ++ [(⟨3, i, -1, m.off, noB⟩ : Fd)] ++ (singP (allT c) i)) = .vec true 5 (out.length + 1 + 1 + (singP (allT c) i).length) (((out.flatMap cF ++ cF (⟨1, i, tw, c.head.off, noB⟩ : Fd)) ++ cF (⟨3, i, -1, m.off, noB⟩ : Fd)) ++ (singP (allT c) i).flatMap cF) := by simp [vFo, Nat.add_assoc] <;> omega
      have hst : lookR p = (out ++ [(⟨1, i, tw, c.head.off, noB⟩ : Fd)] ++ [(⟨3, i, -1, m.off, noB⟩ : Fd)] ++ (singP (allT c) i)) ++ ((c.body.drop 0).flatMap (idlF i fun l => decide (verdP l > 0)) ++ (unuF i c un ++ lookG (findR p) (p.drop (i + 1)) (i + 1))) := by rw [h1]; simp [findG, hoth, hnev]
      have hsz : (out ++ [(⟨1, i, tw, c.head.off, noB⟩ : Fd)] ++ [(⟨3, i, -1, m.off, noB⟩ : Fd)] ++ (singP (allT c) i)).length ≤ i * 160 + 138 + 0 := by simp; omega
      clear hoth hnev
      conv => whnf
      refine use_pure h16 (nr2 (nr_aCl _) rfl) ⟨rfl, ?_⟩
      conv => whnf
      refine ⟨⟨by show out.length + 1 + 1 + (singP (allT c) i).length ≤ _; omega, by show (out.length + 1 + 1 + (singP (allT c) i).length) * 48 ≤ _; omega, okc_F _⟩, ?_⟩
      conv => whnf
      refine ⟨{ q : Nat × List Fd // lookR p = q.2 ++ ((c.body.drop q.1).flatMap (idlF i fun l => decide (verdP l > 0)) ++ (unuF i c un ++ lookG (findR p) (p.drop (i + 1)) (i + 1))) ∧ q.2.length ≤ i * 160 + 138 + q.1 ∧ q.1 ≤ c.body.length }, fun q => St [(1, .pp (.loc 1) 0), (3, vFo q.1.2), (4, .sc (.int .i64 i)), (5, .pp (.loc 5) 0), (7, .sc (.int .i64 q.1.1))] [(1, .cells 0 [vC p]), (5, .cells 0 (cC c))] [], fun q => c.body.length - q.1.1, ⟨(0, _), hst, hsz, Nat.zero_le _⟩, ?_, ?_⟩
      · exact wk_of ⟨avle_refl _, avle_eq hslot, avle_refl _, avle_refl _, avle_refl _, trivial⟩ ⟨oble_refl _, oble_refl _, trivial⟩ rfl ⟨trivial, trivial, trivial, trivial, trivial, trivial⟩
      clear hslot hst hsz
      rintro ⟨⟨j2, o2⟩, g1, g2, g3⟩
      simp only at g1 g2 g3
      conv => whnf
      split
      · rename_i hlt2
        have hlt2 : j2 < c.body.length := by simpa using hlt2
        have hwrap2 : IntKind.i64.wrap ((j2 : Int) + 1) = ((j2 + 1 : Nat) : Int) := (wrap_small _ (by omega) (by omega)).trans (by omega)
        rw [flat_drop _ _ _ hlt2, List.append_assoc, ← List.append_assoc] at g1
        have htk2 := take_cells (g := cL) (n := 14) (fun _ => rfl) c.body j2 hlt2
        have hir2 : (0 : Int) ≤ (j2 : Int) ∧ (j2 : Int) < c.body.length := ⟨Int.natCast_nonneg _, Int.ofNat_lt.2 hlt2⟩
        generalize c.body[j2] = l at g1 htk2
        conv => whnf
        refine ⟨hir2, _, htk2, ?_⟩
        conv => whnf
        refine use_pure (ok17 l) (nr1 (nr_aL _)) ⟨rfl, ?_⟩
        conv => whnf
        split
        · rename_i e
          have e : decide (verdP l > 0) = true := e
          have hi : idlF i (fun l => decide (verdP l > 0)) l = [⟨5, i, -1, l.off, noB⟩] := by simp only [idlF, e]; rfl
          rw [hi] at g1
          conv => whnf
          refine ⟨hir2, _, htk2, ?_⟩
          conv => whnf
          refine ⟨⟨by show o2.length + 1 ≤ _; omega, by show (o2.length + 1) * 48 ≤ _; omega, rfl⟩, ?_⟩
          conv => whnf
          exact ⟨⟨(j2 + 1, o2 ++ [⟨5, i, -1, l.off, noB⟩]), g1, by simp; omega, hlt2⟩, wk_of ⟨avle_refl _, avle_eq (vFo_app _ _), avle_refl _, avle_refl _, avle_int hwrap2, trivial⟩ ⟨oble_refl _, oble_refl _, trivial⟩ rfl ⟨trivial, trivial, trivial, trivial, trivial, trivial⟩, Nat.sub_lt_sub_left hlt2 (Nat.lt_succ_self j2)⟩
        · rename_i e
          have e : decide (verdP l > 0) = false := e
          have hi : idlF i (fun l => decide (verdP l > 0)) l = [] := by simp only [idlF, e]; rfl
          rw [hi, List.append_nil] at g1
          conv => whnf
          exact ⟨⟨(j2 + 1, o2), g1, by show o2.length ≤ i * 160 + 138 + (j2 + 1); omega, hlt2⟩, wk_of ⟨avle_refl _, avle_refl _, avle_refl _, avle_refl _, avle_int hwrap2, trivial⟩ ⟨oble_refl _, oble_refl _, trivial⟩ rfl ⟨trivial, trivial, trivial, trivial, trivial, trivial⟩, Nat.sub_lt_sub_left hlt2 (Nat.lt_succ_self j2)⟩
      rename_i hlt2
      have hlt2 : c.body.length ≤ j2 := by simpa using hlt2
      rw [List.drop_of_length_le hlt2, List.flatMap_nil, List.nil_append, ← List.append_assoc] at g1
      conv => whnf
      refine use_pure h18 (nr2 (nr_aP _) rfl) ⟨rfl, ?_⟩
      rcases Bool.eq_false_or_eq_true un with rfl | rfl
      · have hu : unuF i c true = [⟨6, i, -1, c.head.off, c.head.pred⟩] := rfl
        rw [hu] at g1
        conv => whnf
        refine ⟨⟨by show o2.length + 1 ≤ _; omega, by show (o2.length + 1) * 48 ≤ _; omega, rfl⟩, ?_⟩
        conv => whnf
        exact ⟨⟨(i + 1, o2 ++ [⟨6, i, -1, c.head.off, c.head.pred⟩]), g1, by simp; omega, hlt⟩, wk_of ⟨avle_refl _, avle_eq (vFo_app _ _), avle_int hwrap, trivial⟩ ⟨oble_refl _, trivial⟩ rfl ⟨trivial, trivial, trivial, trivial⟩, Nat.sub_lt_sub_left hlt (Nat.lt_succ_self i)⟩
      · have hu : unuF i c false = [] := rfl
        rw [hu, List.append_nil] at g1
        conv => whnf
        exact ⟨⟨(i + 1, o2), g1, by show o2.length ≤ (i + 1) * 160; omega, hlt⟩, wk_of ⟨avle_refl _, avle_refl _, avle_int hwrap, trivial⟩ ⟨oble_refl _, trivial⟩ rfl ⟨trivial, trivial, trivial, trivial⟩, Nat.sub_lt_sub_left hlt (Nat.lt_succ_self i)⟩
    · rename_i e
      have e : decide (k ≥ 0) = false := e
      have e := of_decide_eq_false e
      have hnev : nevF i c k = [] := by rw [nevF, if_neg e]
      have hslot : vFo (out ++ [(⟨1, i, tw, c.head.off, noB⟩ : Fd)] ++ (singP (allT c) i)) = .vec true 5 (out.length + 1 + (singP (allT c) i).length) ((out.flatMap cF ++ cF (⟨1, i, tw, c.head.off, noB⟩ : Fd)) ++ (singP (allT c) i).flatMap cF) := by simp [vFo, Nat.add_assoc] <;> omega
      have hst : lookR p = (out ++ [(⟨1, i, tw, c.head.off, noB⟩ : Fd)] ++ (singP (allT c) i)) ++ ((c.body.drop 0).flatMap (idlF i fun l => decide (verdP l > 0)) ++ (unuF i c un ++ lookG (findR p) (p.drop (i + 1)) (i + 1))) := by rw [h1]; simp [findG, hoth, hnev]
      have hsz : (out ++ [(⟨1, i, tw, c.head.off, noB⟩ : Fd)] ++ (singP (allT c) i)).length ≤ i * 160 + 138 + 0 := by simp; omega
      clear hoth hnev
      conv => whnf
      refine use_pure h16 (nr2 (nr_aCl _) rfl) ⟨rfl, ?_⟩
      conv => whnf
      refine ⟨⟨by show out.length + 1 + (singP (allT c) i).length ≤ _; omega, by show (out.length + 1 + (singP (allT c) i).length) * 48 ≤ _; omega, okc_F _⟩, ?_⟩
      conv => whnf
      refine ⟨{ q : Nat × List Fd // lookR p = q.2 ++ ((c.body.drop q.1).flatMap (idlF i fun l => decide (verdP l > 0)) ++ (unuF i c un ++ lookG (findR p) (p.drop (i + 1)) (i + 1))) ∧ q.2.length ≤ i * 160 + 138 + q.1 ∧ q.1 ≤ c.body.length }, fun q => St [(1, .pp (.loc 1) 0), (3, vFo q.1.2), (4, .sc (.int .i64 i)), (5, .pp (.loc 5) 0), (7, .sc (.int .i64 q.1.1))] [(1, .cells 0 [vC p]), (5, .cells 0 (cC c))] [], fun q => c.body.length - q.1.1, ⟨(0, _), hst, hsz, Nat.zero_le _⟩, ?_, ?_⟩
      · exact wk_of ⟨avle_refl _, avle_eq hslot, avle_refl _, avle_refl _, avle_refl _, trivial⟩ ⟨oble_refl _, oble_refl _, trivial⟩ rfl ⟨trivial, trivial, trivial, trivial, trivial, trivial⟩
      clear hslot hst hsz
      rintro ⟨⟨j2, o2⟩, g1, g2, g3⟩
      simp only at g1 g2 g3
      conv => whnf
      split
      · rename_i hlt2
        have hlt2 : j2 < c.body.length := by simpa using hlt2
        have hwrap2 : IntKind.i64.wrap ((j2 : Int) + 1) = ((j2 + 1 : Nat) : Int) := (wrap_small _ (by omega) (by omega)).trans (by omega)
        rw [flat_drop _ _ _ hlt2, List.append_assoc, ← List.append_assoc] at g1
        have htk2 := take_cells (g := cL) (n := 14) (fun _ => rfl) c.body j2 hlt2
        have hir2 : (0 : Int) ≤ (j2 : Int) ∧ (j2 : Int) < c.body.length := ⟨Int.natCast_nonneg _, Int.ofNat_lt.2 hlt2⟩
        generalize c.body[j2] = l at g1 htk2
        conv => whnf
        refine ⟨hir2, _, htk2, ?_⟩
        conv => whnf
        refine use_pure (ok17 l) (nr1 (nr_aL _)) ⟨rfl, ?_⟩
        conv => whnf
        split
        · rename_i e
          have e : decide (verdP l > 0) = true := e
          have hi : idlF i (fun l => decide (verdP l > 0)) l = [⟨5, i, -1, l.off, noB⟩] := by simp only [idlF, e]; rfl
          rw [hi] at g1
          conv => whnf
          refine ⟨hir2, _, htk2, ?_⟩
          conv => whnf
          refine ⟨⟨by show o2.length + 1 ≤ _; omega, by show (o2.length + 1) * 48 ≤ _; omega, rfl⟩, ?_⟩
          conv => whnf
          exact ⟨⟨(j2 + 1, o2 ++ [⟨5, i, -1, l.off, noB⟩]), g1, by simp; omega, hlt2⟩, wk_of ⟨avle_refl _, avle_eq (vFo_app _ _), avle_refl _, avle_refl _, avle_int hwrap2, trivial⟩ ⟨oble_refl _, oble_refl _, trivial⟩ rfl ⟨trivial, trivial, trivial, trivial, trivial, trivial⟩, Nat.sub_lt_sub_left hlt2 (Nat.lt_succ_self j2)⟩
        · rename_i e
          have e : decide (verdP l > 0) = false := e
          have hi : idlF i (fun l => decide (verdP l > 0)) l = [] := by simp only [idlF, e]; rfl
          rw [hi, List.append_nil] at g1
          conv => whnf
          exact ⟨⟨(j2 + 1, o2), g1, by show o2.length ≤ i * 160 + 138 + (j2 + 1); omega, hlt2⟩, wk_of ⟨avle_refl _, avle_refl _, avle_refl _, avle_refl _, avle_int hwrap2, trivial⟩ ⟨oble_refl _, oble_refl _, trivial⟩ rfl ⟨trivial, trivial, trivial, trivial, trivial, trivial⟩, Nat.sub_lt_sub_left hlt2 (Nat.lt_succ_self j2)⟩
      rename_i hlt2
      have hlt2 : c.body.length ≤ j2 := by simpa using hlt2
      rw [List.drop_of_length_le hlt2, List.flatMap_nil, List.nil_append, ← List.append_assoc] at g1
      conv => whnf
      refine use_pure h18 (nr2 (nr_aP _) rfl) ⟨rfl, ?_⟩
      rcases Bool.eq_false_or_eq_true un with rfl | rfl
      · have hu : unuF i c true = [⟨6, i, -1, c.head.off, c.head.pred⟩] := rfl
        rw [hu] at g1
        conv => whnf
        refine ⟨⟨by show o2.length + 1 ≤ _; omega, by show (o2.length + 1) * 48 ≤ _; omega, rfl⟩, ?_⟩
        conv => whnf
        exact ⟨⟨(i + 1, o2 ++ [⟨6, i, -1, c.head.off, c.head.pred⟩]), g1, by simp; omega, hlt⟩, wk_of ⟨avle_refl _, avle_eq (vFo_app _ _), avle_int hwrap, trivial⟩ ⟨oble_refl _, trivial⟩ rfl ⟨trivial, trivial, trivial, trivial⟩, Nat.sub_lt_sub_left hlt (Nat.lt_succ_self i)⟩
      · have hu : unuF i c false = [] := rfl
        rw [hu, List.append_nil] at g1
        conv => whnf
        exact ⟨⟨(i + 1, o2), g1, by show o2.length ≤ (i + 1) * 160; omega, hlt⟩, wk_of ⟨avle_refl _, avle_refl _, avle_int hwrap, trivial⟩ ⟨oble_refl _, trivial⟩ rfl ⟨trivial, trivial, trivial, trivial⟩, Nat.sub_lt_sub_left hlt (Nat.lt_succ_self i)⟩
  rename_i e
  have e : decide (tw ≥ 0) = false := e
  have e := of_decide_eq_false e
  conv => whnf
  refine use_pure h14 (nr2 (nr_vC _) rfl) ⟨rfl, ?_⟩
  conv => whnf
  split
  · rename_i e2
    have e2 : decide (cv ≥ 0) = true := e2
    have hoth : othF i c tw cv = [⟨2, i, cv, c.head.off, noB⟩] := by rw [othF, if_neg e, if_pos (of_decide_eq_true e2)]
    conv => whnf
    refine ⟨⟨by show out.length + 1 ≤ _; omega, by show (out.length + 1) * 48 ≤ _; omega, rfl⟩, ?_⟩
    conv => whnf
    refine use_pure h15 (nr1 (nr_aCl _)) ⟨rfl, ?_⟩
    conv => whnf
    split
    · rename_i e
      have e : decide (k ≥ 0) = true := e
      have e := of_decide_eq_true e
      obtain ⟨j, hj, rfl⟩ : ∃ j, j < c.body.length ∧ k = (j : Int) := by
        rcases hrange with h | ⟨j, h1, h2⟩
        · omega
        · exact ⟨j, h1, by rw [h2, Nat.zero_add]⟩
      have htkj := take_cells (g := cL) (n := 14) (fun _ => rfl) c.body j hj
      have hirj : (0 : Int) ≤ (j : Int) ∧ (j : Int) < c.body.length := ⟨Int.natCast_nonneg _, Int.ofNat_lt.2 hj⟩
      have hnev : nevF i c (j : Int) = [⟨3, i, -1, c.body[j].off, noB⟩] := by
        have : offAt c.body (j : Int) = c.body[j].off := by unfold offAt; rw [Int.toNat_natCast, List.getElem?_eq_getElem hj]
        rw [nevF, if_pos e, this]
      generalize c.body[j] = m at htkj hnev
      conv => whnf
      refine ⟨hirj, _, htkj, ?_⟩
      conv => whnf
      refine ⟨⟨by show out.length + 1 + 1 ≤ _; omega, by show (out.length + 1 + 1) * 48 ≤ _; omega, rfl⟩, ?_⟩
      have hslot : vFo (out ++ [(⟨2, i, cv, c.head.off, noB⟩ : Fd)] ++ [(⟨3, i, -1, m.off, noB⟩ : Fd)] ++ (singP (allT c) i)) = .vec true 5 (out.length + 1 + 1 + (singP (allT c) i).length) (((out.flatMap cF ++ cF (⟨2, i, cv, c.head.off, noB⟩ : Fd)) ++ cF (⟨3, i, -1, m.off, noB⟩ : Fd)) ++ (singP (allT c) i).flatMap cF) := by simp [vFo, Nat.add_assoc] <;> omega
      have hst : lookR p = (out ++ [(⟨2, i, cv, c.head.off, noB⟩ : Fd)] ++ [(⟨3, i, -1, m.off, noB⟩ : Fd)] ++ (singP (allT c) i)) ++ ((c.body.drop 0).flatMap (idlF i fun l => decide (verdP l > 0)) ++ (unuF i c un ++ lookG (findR p) (p.drop (i + 1)) (i + 1))) := by rw [h1]; simp [findG, hoth, hnev]
      have hsz : (out ++ [(⟨2, i, cv, c.head.off, noB⟩ : Fd)] ++ [(⟨3, i, -1, m.off, noB⟩ : Fd)] ++ (singP (allT c) i)).length ≤ i * 160 + 138 + 0 := by simp; omega
      clear hoth hnev
      conv => whnf
      refine use_pure h16 (nr2 (nr_aCl _) rfl) ⟨rfl, ?_⟩
      conv => whnf
      refine ⟨⟨by show out.length + 1 + 1 + (singP (allT c) i).length ≤ _; omega, by show (out.length + 1 + 1 + (singP (allT c) i).length) * 48 ≤ _; omega, okc_F _⟩, ?_⟩
      conv => whnf
      refine ⟨{ q : Nat × List Fd // lookR p = q.2 ++ ((c.body.drop q.1).flatMap (idlF i fun l => decide (verdP l > 0)) ++ (unuF i c un ++ lookG (findR p) (p.drop (i + 1)) (i + 1))) ∧ q.2.length ≤ i * 160 + 138 + q.1 ∧ q.1 ≤ c.body.length }, fun q => St [(1, .pp (.loc 1) 0), (3, vFo q.1.2), (4, .sc (.int .i64 i)), (5, .pp (.loc 5) 0), (7, .sc (.int .i64 q.1.1))] [(1, .cells 0 [vC p]), (5, .cells 0 (cC c))] [], fun q => c.body.length - q.1.1, ⟨(0, _), hst, hsz, Nat.zero_le _⟩, ?_, ?_⟩
      · exact wk_of ⟨avle_refl _, avle_eq hslot, avle_refl _, avle_refl _, avle_refl _, trivial⟩ ⟨oble_refl _, oble_refl _, trivial⟩ rfl ⟨trivial, trivial, trivial, trivial, trivial, trivial⟩
      clear hslot hst hsz
      rintro ⟨⟨j2, o2⟩, g1, g2, g3⟩
      simp only at g1 g2 g3
      conv => whnf
      split
      · rename_i hlt2
        have hlt2 : j2 < c.body.length := by simpa using hlt2
        have hwrap2 : IntKind.i64.wrap ((j2 : Int) + 1) = ((j2 + 1 : Nat) : Int) := (wrap_small _ (by omega) (by omega)).trans (by omega)
        rw [flat_drop _ _ _ hlt2, List.append_assoc, ← List.append_assoc] at g1
        have htk2 := take_cells (g := cL) (n := 14) (fun _ => rfl) c.body j2 hlt2
        have hir2 : (0 : Int) ≤ (j2 : Int) ∧ (j2 : Int) < c.body.length := ⟨Int.natCast_nonneg _, Int.ofNat_lt.2 hlt2⟩
        generalize c.body[j2] = l at g1 htk2
        conv => whnf
        refine ⟨hir2, _, htk2, ?_⟩
        conv => whnf
        refine use_pure (ok17 l) (nr1 (nr_aL _)) ⟨rfl, ?_⟩
        conv => whnf
        split
        · rename_i e
          have e : decide (verdP l > 0) = true := e
          have hi : idlF i (fun l => decide (verdP l > 0)) l = [⟨5, i, -1, l.off, noB⟩] := by simp only [idlF, e]; rfl
          rw [hi] at g1
          conv => whnf
          refine ⟨hir2, _, htk2, ?_⟩
          conv => whnf
          refine ⟨⟨by show o2.length + 1 ≤ _; omega, by show (o2.length + 1) * 48 ≤ _; omega, rfl⟩, ?_⟩
          conv => whnf
          exact ⟨⟨(j2 + 1, o2 ++ [⟨5, i, -1, l.off, noB⟩]), g1, by simp; omega, hlt2⟩, wk_of ⟨avle_refl _, avle_eq (vFo_app _ _), avle_refl _, avle_refl _, avle_int hwrap2, trivial⟩ ⟨oble_refl _, oble_refl _, trivial⟩ rfl ⟨trivial, trivial, trivial, trivial, trivial, trivial⟩, Nat.sub_lt_sub_left hlt2 (Nat.lt_succ_self j2)⟩
        · rename_i e
          have e : decide (verdP l > 0) = false := e
          have hi : idlF i (fun l => decide (verdP l > 0)) l = [] := by simp only [idlF, e]; rfl
          rw [hi, List.append_nil] at g1
          conv => whnf
          exact ⟨⟨(j2 + 1, o2), g1, by show o2.length ≤ i * 160 + 138 + (j2 + 1); omega, hlt2⟩, wk_of ⟨avle_refl _, avle_refl _, avle_refl _, avle_refl _, avle_int hwrap2, trivial⟩ ⟨oble_refl _, oble_refl _, trivial⟩ rfl ⟨trivial, trivial, trivial, trivial, trivial, trivial⟩, Nat.sub_lt_sub_left hlt2 (Nat.lt_succ_self j2)⟩
      rename_i hlt2
      have hlt2 : c.body.length ≤ j2 := by simpa using hlt2
      rw [List.drop_of_length_le hlt2, List.flatMap_nil, List.nil_append, ← List.append_assoc] at g1
      conv => whnf
      refine use_pure h18 (nr2 (nr_aP _) rfl) ⟨rfl, ?_⟩
      rcases Bool.eq_false_or_eq_true un with rfl | rfl
      · have hu : unuF i c true = [⟨6, i, -1, c.head.off, c.head.pred⟩] := rfl
        rw [hu] at g1
        conv => whnf
        refine ⟨⟨by show o2.length + 1 ≤ _; omega, by show (o2.length + 1) * 48 ≤ _; omega, rfl⟩, ?_⟩
        conv => whnf
        exact ⟨⟨(i + 1, o2 ++ [⟨6, i, -1, c.head.off, c.head.pred⟩]), g1, by simp; omega, hlt⟩, wk_of ⟨avle_refl _, avle_eq (vFo_app _ _), avle_int hwrap, trivial⟩ ⟨oble_refl _, trivial⟩ rfl ⟨trivial, trivial, trivial, trivial⟩, Nat.sub_lt_sub_left hlt (Nat.lt_succ_self i)⟩
      · have hu : unuF i c false = [] := rfl
        rw [hu, List.append_nil] at g1
        conv => whnf
        exact ⟨⟨(i + 1, o2), g1, by show o2.length ≤ (i + 1) * 160; omega, hlt⟩, wk_of ⟨avle_refl _, avle_refl _, avle_int hwrap, trivial⟩ ⟨oble_refl _, trivial⟩ rfl ⟨trivial, trivial, trivial, trivial⟩, Nat.sub_lt_sub_left hlt (Nat.lt_succ_self i)⟩
    · rename_i e
      have e : decide (k ≥ 0) = false := e
      have e := of_decide_eq_false e
      have hnev : nevF i c k = [] := by rw [nevF, if_neg e]
      have hslot : vFo (out ++ [(⟨2, i, cv, c.head.off, noB⟩ : Fd)] ++ (singP (allT c) i)) = .vec true 5 (out.length + 1 + (singP (allT c) i).length) ((out.flatMap cF ++ cF (⟨2, i, cv, c.head.off, noB⟩ : Fd)) ++ (singP (allT c) i).flatMap cF) := by simp [vFo, Nat.add_assoc] <;> omega
      have hst : lookR p = (out ++ [(⟨2, i, cv, c.head.off, noB⟩ : Fd)] ++ (singP (allT c) i)) ++ ((c.body.drop 0).flatMap (idlF i fun l => decide (verdP l > 0)) ++ (unuF i c un ++ lookG (findR p) (p.drop (i + 1)) (i + 1))) := by rw [h1]; simp [findG, hoth, hnev]
      have hsz : (out ++ [(⟨2, i, cv, c.head.off, noB⟩ : Fd)] ++ (singP (allT c) i)).length ≤ i * 160 + 138 + 0 := by simp; omega
      clear hoth hnev
      conv => whnf
      refine use_pure h16 (nr2 (nr_aCl _) rfl) ⟨rfl, ?_⟩
      conv => whnf
      refine ⟨⟨by show out.length + 1 + (singP (allT c) i).length ≤ _; omega, by show (out.length + 1 + (singP (allT c) i).length) * 48 ≤ _; omega, okc_F _⟩, ?_⟩
      conv => whnf
      refine ⟨{ q : Nat × List Fd // lookR p = q.2 ++ ((c.body.drop q.1).flatMap (idlF i fun l => decide (verdP l > 0)) ++ (unuF i c un ++ lookG (findR p) (p.drop (i + 1)) (i + 1))) ∧ q.2.length ≤ i * 160 + 138 + q.1 ∧ q.1 ≤ c.body.length }, fun q => St [(1, .pp (.loc 1) 0), (3, vFo q.1.2), (4, .sc (.int .i64 i)), (5, .pp (.loc 5) 0), (7, .sc (.int .i64 q.1.1))] [(1, .cells 0 [vC p]), (5, .cells 0 (cC c))] [], fun q => c.body.length - q.1.1, ⟨(0, _), hst, hsz, Nat.zero_le _⟩, ?_, ?_⟩
      · exact wk_of ⟨avle_refl _, avle_eq hslot, avle_refl _, avle_refl _, avle_refl _, trivial⟩ ⟨oble_refl _, oble_refl _, trivial⟩ rfl ⟨trivial, trivial, trivial, trivial, trivial, trivial⟩
      clear hslot hst hsz
      rintro ⟨⟨j2, o2⟩, g1, g2, g3⟩
      simp only at g1 g2 g3
      conv => whnf
      split
      · rename_i hlt2
        have hlt2 : j2 < c.body.length := by simpa using hlt2
        have hwrap2 : IntKind.i64.wrap ((j2 : Int) + 1) = ((j2 + 1 : Nat) : Int) := (wrap_small _ (by omega) (by omega)).trans (by omega)
        rw [flat_drop _ _ _ hlt2, List.append_assoc, ← List.append_assoc] at g1
        have htk2 := take_cells (g := cL) (n := 14) (fun _ => rfl) c.body j2 hlt2
        have hir2 : (0 : Int) ≤ (j2 : Int) ∧ (j2 : Int) < c.body.length := ⟨Int.natCast_nonneg _, Int.ofNat_lt.2 hlt2⟩
        generalize c.body[j2] = l at g1 htk2
        conv => whnf
        refine ⟨hir2, _, htk2, ?_⟩
        conv => whnf
        refine use_pure (ok17 l) (nr1 (nr_aL _)) ⟨rfl, ?_⟩
        conv => whnf
        split
        · rename_i e
          have e : decide (verdP l > 0) = true := e
          have hi : idlF i (fun l => decide (verdP l > 0)) l = [⟨5, i, -1, l.off, noB⟩] := by simp only [idlF, e]; rfl
          rw [hi] at g1
          conv => whnf
          refine ⟨hir2, _, htk2, ?_⟩
          conv => whnf
          refine ⟨⟨by show o2.length + 1 ≤ _; omega, by show (o2.length + 1) * 48 ≤ _; omega, rfl⟩, ?_⟩
          conv => whnf
          exact ⟨⟨(j2 + 1, o2 ++ [⟨5, i, -1, l.off, noB⟩]), g1, by simp; omega, hlt2⟩, wk_of ⟨avle_refl _, avle_eq (vFo_app _ _), avle_refl _, avle_refl _, avle_int hwrap2, trivial⟩ ⟨oble_refl _, oble_refl _, trivial⟩ rfl ⟨trivial, trivial, trivial, trivial, trivial, trivial⟩, Nat.sub_lt_sub_left hlt2 (Nat.lt_succ_self j2)⟩
        · rename_i e
          have e : decide (verdP l > 0) = false := e
          have hi : idlF i (fun l => decide (verdP l > 0)) l = [] := by simp only [idlF, e]; rfl
          rw [hi, List.append_nil] at g1
          conv => whnf
          exact ⟨⟨(j2 + 1, o2), g1, by show o2.length ≤ i * 160 + 138 + (j2 + 1); omega, hlt2⟩, wk_of ⟨avle_refl _, avle_refl _, avle_refl _, avle_refl _, avle_int hwrap2, trivial⟩ ⟨oble_refl _, oble_refl _, trivial⟩ rfl ⟨trivial, trivial, trivial, trivial, trivial, trivial⟩, Nat.sub_lt_sub_left hlt2 (Nat.lt_succ_self j2)⟩
      rename_i hlt2
      have hlt2 : c.body.length ≤ j2 := by simpa using hlt2
      rw [List.drop_of_length_le hlt2, List.flatMap_nil, List.nil_append, ← List.append_assoc] at g1
      conv => whnf
      refine use_pure h18 (nr2 (nr_aP _) rfl) ⟨rfl, ?_⟩
      rcases Bool.eq_false_or_eq_true un with rfl | rfl
      · have hu : unuF i c true = [⟨6, i, -1, c.head.off, c.head.pred⟩] := rfl
        rw [hu] at g1
        conv => whnf
        refine ⟨⟨by show o2.length + 1 ≤ _; omega, by show (o2.length + 1) * 48 ≤ _; omega, rfl⟩, ?_⟩
        conv => whnf
        exact ⟨⟨(i + 1, o2 ++ [⟨6, i, -1, c.head.off, c.head.pred⟩]), g1, by simp; omega, hlt⟩, wk_of ⟨avle_refl _, avle_eq (vFo_app _ _), avle_int hwrap, trivial⟩ ⟨oble_refl _, trivial⟩ rfl ⟨trivial, trivial, trivial, trivial⟩, Nat.sub_lt_sub_left hlt (Nat.lt_succ_self i)⟩
      · have hu : unuF i c false = [] := rfl
        rw [hu, List.append_nil] at g1
        conv => whnf
        exact ⟨⟨(i + 1, o2), g1, by show o2.length ≤ (i + 1) * 160; omega, hlt⟩, wk_of ⟨avle_refl _, avle_refl _, avle_int hwrap, trivial⟩ ⟨oble_refl _, trivial⟩ rfl ⟨trivial, trivial, trivial, trivial⟩, Nat.sub_lt_sub_left hlt (Nat.lt_succ_self i)⟩
  · rename_i e2
    have e2 : decide (cv ≥ 0) = false := e2
    have hoth : othF i c tw cv = [] := by rw [othF, if_neg e, if_neg (of_decide_eq_false e2)]
    conv => whnf
    refine use_pure h15 (nr1 (nr_aCl _)) ⟨rfl, ?_⟩
    conv => whnf
    split
    · rename_i e
      have e : decide (k ≥ 0) = true := e
      have e := of_decide_eq_true e
      obtain ⟨j, hj, rfl⟩ : ∃ j, j < c.body.length ∧ k = (j : Int) := by
        rcases hrange with h | ⟨j, h1, h2⟩
        · omega
        · exact ⟨j, h1, by rw [h2, Nat.zero_add]⟩
      have htkj := take_cells (g := cL) (n := 14) (fun _ => rfl) c.body j hj
      have hirj : (0 : Int) ≤ (j : Int) ∧ (j : Int) < c.body.length := ⟨Int.natCast_nonneg _, Int.ofNat_lt.2 hj⟩
      have hnev : nevF i c (j : Int) = [⟨3, i, -1, c.body[j].off, noB⟩] := by
        have : offAt c.body (j : Int) = c.body[j].off := by unfold offAt; rw [Int.toNat_natCast, List.getElem?_eq_getElem hj]
        rw [nevF, if_pos e, this]
      generalize c.body[j] = m at htkj hnev
      conv => whnf
      refine ⟨hirj, _, htkj, ?_⟩
      conv => whnf
      refine ⟨⟨by show out.length + 1 ≤ _; omega, by show (out.length + 1) * 48 ≤ _; omega, rfl⟩, ?_⟩
      have hslot : vFo (out ++ [(⟨3, i, -1, m.off, noB⟩ : Fd)] ++ (singP (allT c) i)) = .vec true 5 (out.length + 1 + (singP (allT c) i).length) ((out.flatMap cF ++ cF (⟨3, i, -1, m.off, noB⟩ : Fd)) ++ (singP (allT c) i).flatMap cF) := by simp [vFo, Nat.add_assoc] <;> omega
      have hst : lookR p = (out ++ [(⟨3, i, -1, m.off, noB⟩ : Fd)] ++ (singP (allT c) i)) ++ ((c.body.drop 0).flatMap (idlF i fun l => decide (verdP l > 0)) ++ (unuF i c un ++ lookG (findR p) (p.drop (i + 1)) (i + 1))) := by rw [h1]; simp [findG, hoth, hnev]
      have hsz : (out ++ [(⟨3, i, -1, m.off, noB⟩ : Fd)] ++ (singP (allT c) i)).length ≤ i * 160 + 138 + 0 := by simp; omega
      clear hoth hnev
      conv => whnf
      refine use_pure h16 (nr2 (nr_aCl _) rfl) ⟨rfl, ?_⟩
      conv => whnf
      refine ⟨⟨by show out.length + 1 + (singP (allT c) i).length ≤ _; omega, by show (out.length + 1 + (singP (allT c) i).length) * 48 ≤ _; omega, okc_F _⟩, ?_⟩
      conv => whnf
      refine ⟨{ q : Nat × List Fd // lookR p = q.2 ++ ((c.body.drop q.1).flatMap (idlF i fun l => decide (verdP l > 0)) ++ (unuF i c un ++ lookG (findR p) (p.drop (i + 1)) (i + 1))) ∧ q.2.length ≤ i * 160 + 138 + q.1 ∧ q.1 ≤ c.body.length }, fun q => St [(1, .pp (.loc 1) 0), (3, vFo q.1.2), (4, .sc (.int .i64 i)), (5, .pp (.loc 5) 0), (7, .sc (.int .i64 q.1.1))] [(1, .cells 0 [vC p]), (5, .cells 0 (cC c))] [], fun q => c.body.length - q.1.1, ⟨(0, _), hst, hsz, Nat.zero_le _⟩, ?_, ?_⟩
      · exact wk_of ⟨avle_refl _, avle_eq hslot, avle_refl _, avle_refl _, avle_refl _, trivial⟩ ⟨oble_refl _, oble_refl _, trivial⟩ rfl ⟨trivial, trivial, trivial, trivial, trivial, trivial⟩
      clear hslot hst hsz
      rintro ⟨⟨j2, o2⟩, g1, g2, g3⟩
      simp only at g1 g2 g3
      conv => whnf
      split
      · rename_i hlt2
        have hlt2 : j2 < c.body.length := by simpa using hlt2
        have hwrap2 : IntKind.i64.wrap ((j2 : Int) + 1) = ((j2 + 1 : Nat) : Int) := (wrap_small _ (by omega) (by omega)).trans (by omega)
        rw [flat_drop _ _ _ hlt2, List.append_assoc, ← List.append_assoc] at g1
        have htk2 := take_cells (g := cL) (n := 14) (fun _ => rfl) c.body j2 hlt2
        have hir2 : (0 : Int) ≤ (j2 : Int) ∧ (j2 : Int) < c.body.length := ⟨Int.natCast_nonneg _, Int.ofNat_lt.2 hlt2⟩
        generalize c.body[j2] = l at g1 htk2
        conv => whnf
        refine ⟨hir2, _, htk2, ?_⟩
        conv => whnf
        refine use_pure (ok17 l) (nr1 (nr_aL _)) ⟨rfl, ?_⟩
        conv => whnf
        split
        · rename_i e
          have e : decide (verdP l > 0) = true := e
          have hi : idlF i (fun l => decide (verdP l > 0)) l = [⟨5, i, -1, l.off, noB⟩] := by simp only [idlF, e]; rfl
          rw [hi] at g1
          conv => whnf
          refine ⟨hir2, _, htk2, ?_⟩
          conv => whnf
          refine ⟨⟨by show o2.length + 1 ≤ _; omega, by show (o2.length + 1) * 48 ≤ _; omega, rfl⟩, ?_⟩
          conv => whnf
          exact ⟨⟨(j2 + 1, o2 ++ [⟨5, i, -1, l.off, noB⟩]), g1, by simp; omega, hlt2⟩, wk_of ⟨avle_refl _, avle_eq (vFo_app _ _), avle_refl _, avle_refl _, avle_int hwrap2, trivial⟩ ⟨oble_refl _, oble_refl _, trivial⟩ rfl ⟨trivial, trivial, trivial, trivial, trivial, trivial⟩, Nat.sub_lt_sub_left hlt2 (Nat.lt_succ_self j2)⟩
        · rename_i e
          have e : decide (verdP l > 0) = false := e
          have hi : idlF i (fun l => decide (verdP l > 0)) l = [] := by simp only [idlF, e]; rfl
          rw [hi, List.append_nil] at g1
          conv => whnf
          exact ⟨⟨(j2 + 1, o2), g1, by show o2.length ≤ i * 160 + 138 + (j2 + 1); omega, hlt2⟩, wk_of ⟨avle_refl _, avle_refl _, avle_refl _, avle_refl _, avle_int hwrap2, trivial⟩ ⟨oble_refl _, oble_refl _, trivial⟩ rfl ⟨trivial, trivial, trivial, trivial, trivial, trivial⟩, Nat.sub_lt_sub_left hlt2 (Nat.lt_succ_self j2)⟩
      rename_i hlt2
      have hlt2 : c.body.length ≤ j2 := by simpa using hlt2
      rw [List.drop_of_length_le hlt2, List.flatMap_nil, List.nil_append, ← List.append_assoc] at g1
      conv => whnf
      refine use_pure h18 (nr2 (nr_aP _) rfl) ⟨rfl, ?_⟩
      rcases Bool.eq_false_or_eq_true un with rfl | rfl
      · have hu : unuF i c true = [⟨6, i, -1, c.head.off, c.head.pred⟩] := rfl
        rw [hu] at g1
        conv => whnf
        refine ⟨⟨by show o2.length + 1 ≤ _; omega, by show (o2.length + 1) * 48 ≤ _; omega, rfl⟩, ?_⟩
        conv => whnf
        exact ⟨⟨(i + 1, o2 ++ [⟨6, i, -1, c.head.off, c.head.pred⟩]), g1, by simp; omega, hlt⟩, wk_of ⟨avle_refl _, avle_eq (vFo_app _ _), avle_int hwrap, trivial⟩ ⟨oble_refl _, trivial⟩ rfl ⟨trivial, trivial, trivial, trivial⟩, Nat.sub_lt_sub_left hlt (Nat.lt_succ_self i)⟩
      · have hu : unuF i c false = [] := rfl
        rw [hu, List.append_nil] at g1
        conv => whnf
        exact ⟨⟨(i + 1, o2), g1, by show o2.length ≤ (i + 1) * 160; omega, hlt⟩, wk_of ⟨avle_refl _, avle_refl _, avle_int hwrap, trivial⟩ ⟨oble_refl _, trivial⟩ rfl ⟨trivial, trivial, trivial, trivial⟩, Nat.sub_lt_sub_left hlt (Nat.lt_succ_self i)⟩
    · rename_i e
      have e : decide (k ≥ 0) = false := e
      have e := of_decide_eq_false e
      have hnev : nevF i c k = [] := by rw [nevF, if_neg e]
      have hslot : vFo (out ++ (singP (allT c) i)) = .vec true 5 (out.length + (singP (allT c) i).length) (out.flatMap cF ++ (singP (allT c) i).flatMap cF) := by simp [vFo] <;> omega
      have hst : lookR p = (out ++ (singP (allT c) i)) ++ ((c.body.drop 0).flatMap (idlF i fun l => decide (verdP l > 0)) ++ (unuF i c un ++ lookG (findR p) (p.drop (i + 1)) (i + 1))) := by rw [h1]; simp [findG, hoth, hnev]
      have hsz : (out ++ (singP (allT c) i)).length ≤ i * 160 + 138 + 0 := by simp; omega
      clear hoth hnev
      conv => whnf
      refine use_pure h16 (nr2 (nr_aCl _) rfl) ⟨rfl, ?_⟩
      conv => whnf
      refine ⟨⟨by show out.length + (singP (allT c) i).length ≤ _; omega, by show (out.length + (singP (allT c) i).length) * 48 ≤ _; omega, okc_F _⟩, ?_⟩
      conv => whnf
      refine ⟨{ q : Nat × List Fd // lookR p = q.2 ++ ((c.body.drop q.1).flatMap (idlF i fun l => decide (verdP l > 0)) ++ (unuF i c un ++ lookG (findR p) (p.drop (i + 1)) (i + 1))) ∧ q.2.length ≤ i * 160 + 138 + q.1 ∧ q.1 ≤ c.body.length }, fun q => St [(1, .pp (.loc 1) 0), (3, vFo q.1.2), (4, .sc (.int .i64 i)), (5, .pp (.loc 5) 0), (7, .sc (.int .i64 q.1.1))] [(1, .cells 0 [vC p]), (5, .cells 0 (cC c))] [], fun q => c.body.length - q.1.1, ⟨(0, _), hst, hsz, Nat.zero_le _⟩, ?_, ?_⟩
      · exact wk_of ⟨avle_refl _, avle_eq hslot, avle_refl _, avle_refl _, avle_refl _, trivial⟩ ⟨oble_refl _, oble_refl _, trivial⟩ rfl ⟨trivial, trivial, trivial, trivial, trivial, trivial⟩
      clear hslot hst hsz
      rintro ⟨⟨j2, o2⟩, g1, g2, g3⟩
      simp only at g1 g2 g3
      conv => whnf
      split
      · rename_i hlt2
        have hlt2 : j2 < c.body.length := by simpa using hlt2
        have hwrap2 : IntKind.i64.wrap ((j2 : Int) + 1) = ((j2 + 1 : Nat) : Int) := (wrap_small _ (by omega) (by omega)).trans (by omega)
        rw [flat_drop _ _ _ hlt2, List.append_assoc, ← List.append_assoc] at g1
        have htk2 := take_cells (g := cL) (n := 14) (fun _ => rfl) c.body j2 hlt2
        have hir2 : (0 : Int) ≤ (j2 : Int) ∧ (j2 : Int) < c.body.length := ⟨Int.natCast_nonneg _, Int.ofNat_lt.2 hlt2⟩
        generalize c.body[j2] = l at g1 htk2
        conv => whnf
        refine ⟨hir2, _, htk2, ?_⟩
        conv => whnf
        refine use_pure (ok17 l) (nr1 (nr_aL _)) ⟨rfl, ?_⟩
        conv => whnf
        split
        · rename_i e
          have e : decide (verdP l > 0) = true := e
          have hi : idlF i (fun l => decide (verdP l > 0)) l = [⟨5, i, -1, l.off, noB⟩] := by simp only [idlF, e]; rfl
          rw [hi] at g1
          conv => whnf
          refine ⟨hir2, _, htk2, ?_⟩
          conv => whnf
          refine ⟨⟨by show o2.length + 1 ≤ _; omega, by show (o2.length + 1) * 48 ≤ _; omega, rfl⟩, ?_⟩
          conv => whnf
          exact ⟨⟨(j2 + 1, o2 ++ [⟨5, i, -1, l.off, noB⟩]), g1, by simp; omega, hlt2⟩, wk_of ⟨avle_refl _, avle_eq (vFo_app _ _), avle_refl _, avle_refl _, avle_int hwrap2, trivial⟩ ⟨oble_refl _, oble_refl _, trivial⟩ rfl ⟨trivial, trivial, trivial, trivial, trivial, trivial⟩, Nat.sub_lt_sub_left hlt2 (Nat.lt_succ_self j2)⟩
        · rename_i e
          have e : decide (verdP l > 0) = false := e
          have hi : idlF i (fun l => decide (verdP l > 0)) l = [] := by simp only [idlF, e]; rfl
          rw [hi, List.append_nil] at g1
          conv => whnf
          exact ⟨⟨(j2 + 1, o2), g1, by show o2.length ≤ i * 160 + 138 + (j2 + 1); omega, hlt2⟩, wk_of ⟨avle_refl _, avle_refl _, avle_refl _, avle_refl _, avle_int hwrap2, trivial⟩ ⟨oble_refl _, oble_refl _, trivial⟩ rfl ⟨trivial, trivial, trivial, trivial, trivial, trivial⟩, Nat.sub_lt_sub_left hlt2 (Nat.lt_succ_self j2)⟩
      rename_i hlt2
      have hlt2 : c.body.length ≤ j2 := by simpa using hlt2
      rw [List.drop_of_length_le hlt2, List.flatMap_nil, List.nil_append, ← List.append_assoc] at g1
      conv => whnf
      refine use_pure h18 (nr2 (nr_aP _) rfl) ⟨rfl, ?_⟩
      rcases Bool.eq_false_or_eq_true un with rfl | rfl
      · have hu : unuF i c true = [⟨6, i, -1, c.head.off, c.head.pred⟩] := rfl
        rw [hu] at g1
        conv => whnf
        refine ⟨⟨by show o2.length + 1 ≤ _; omega, by show (o2.length + 1) * 48 ≤ _; omega, rfl⟩, ?_⟩
        conv => whnf
        exact ⟨⟨(i + 1, o2 ++ [⟨6, i, -1, c.head.off, c.head.pred⟩]), g1, by simp; omega, hlt⟩, wk_of ⟨avle_refl _, avle_eq (vFo_app _ _), avle_int hwrap, trivial⟩ ⟨oble_refl _, trivial⟩ rfl ⟨trivial, trivial, trivial, trivial⟩, Nat.sub_lt_sub_left hlt (Nat.lt_succ_self i)⟩
      · have hu : unuF i c false = [] := rfl
        rw [hu, List.append_nil] at g1
        conv => whnf
        exact ⟨⟨(i + 1, o2), g1, by show o2.length ≤ (i + 1) * 160; omega, hlt⟩, wk_of ⟨avle_refl _, avle_refl _, avle_int hwrap, trivial⟩ ⟨oble_refl _, trivial⟩ rfl ⟨trivial, trivial, trivial, trivial⟩, Nat.sub_lt_sub_left hlt (Nat.lt_succ_self i)⟩
end Go.Proofs.YtjchgncgkhofhaaGreat.AL
