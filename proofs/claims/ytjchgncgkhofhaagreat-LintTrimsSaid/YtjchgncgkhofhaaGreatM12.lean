/- The program's functions in abstract words: a clause's text (edictref04): atoms, literals, clauses. -/
import Derived.Test.YtjchgncgkhofhaaGreatM11
set_option linter.unusedVariables false
namespace Go.Proofs.YtjchgncgkhofhaaGreat.AL
open Go
attribute [local irreducible] PlainFn CallOk

theorem ok96 (pred : ByteArray) (l : List ByteArray) (B : Nat) (hB : ∀ x ∈ l, x.size ≤ B) (hl : l.length * (B + 2) ≤ 1000000) (hn : l.length ≤ 1000000) (hp : pred.size ≤ 64) : ∃ s : ByteArray, POk 96 [.sc (.string pred), vS l] (.sc (.string s)) ∧ s.size ≤ 66 + l.length * (B + 2) ∧ pred.size ≤ s.size := by
  have hsz := listA_size B l ⟨#[]⟩ 0 hB
  have h0 : (ByteArray.mk #[]).size = 0 := rfl
  refine ⟨if l.length = 0 then pred else pred ++ ⟨#[40]⟩ ++ listA ⟨#[]⟩ 0 l ++ ⟨#[41]⟩, ?_, ?_, ?_⟩
  · refine fn_ok mixed (En_ok _ _ _ _) (pl := fun _ => []) (fn := Go.Proofs.Tryz.f96) (c := _) (by kernel_rfl) rfl (by decide) (by kernel_rfl) (E := E0) ?_
    conv => whnf
    split
    · rename_i e
      have e : decide ((l.length : Int) = 0) = true := e
      have e : l.length = 0 := by have := of_decide_eq_true e; omega
      conv => whnf
      exact ⟨rfl, by rw [if_pos e]⟩
    · rename_i e
      have e : decide ((l.length : Int) = 0) = false := e
      have e : ¬ l.length = 0 := by have := of_decide_eq_false e; omega
      conv => whnf
      refine ⟨by show pred.size + 1 ≤ _; omega, ?_⟩
      conv => whnf
      refine use_pure (ok98 l B hB hl hn) (nr1 (nr_vS _)) ⟨rfl, ?_⟩
      conv => whnf
      refine ⟨by rw [size_app]; show pred.size + 1 + _ ≤ _; omega, ?_⟩
      conv => whnf
      refine ⟨by rw [size_app, size_app]; show pred.size + 1 + _ + 1 ≤ _; omega, ?_⟩
      conv => whnf
      exact ⟨rfl, by rw [if_neg e]⟩
  · split
    · omega
    · rw [size_app, size_app, size_app]; show pred.size + 1 + _ + 1 ≤ _; omega
  · split
    · omega
    · rw [size_app, size_app, size_app]; show pred.size ≤ pred.size + 1 + _ + 1; omega
/-- One answer for each. -/
theorem pickF {α : Type} (l : List α) (P : α → ByteArray → Prop) (h : ∀ t ∈ l, ∃ s, P t s) : ∃ F : α → ByteArray, ∀ t ∈ l, P t (F t) := by
  classical
  refine ⟨fun t => if ht : t ∈ l then Classical.choose (h t ht) else ⟨#[]⟩, fun t ht => ?_⟩
  simp only [ht, dif_pos]
  exact Classical.choose_spec (h t ht)
theorem first_zero {α : Type} (f : α → Int) : ∀ (l : List α), firstP f l = 0 → ∀ x ∈ l, f x = 0
  | [], _, x, hx => by cases hx
  | y :: l, h, x, hx => by
    unfold firstP at h
    split at h
    · rename_i hy
      rcases List.mem_cons.1 hx with rfl | hx
      · exact hy
      · exact first_zero f l h x hx
    · rename_i hy; exact absurd h hy
theorem atom_zero {a : At} (h : atomP a = 0) : nameP a.pred = true ∧ a.args.length ≤ 8 ∧ ∀ t ∈ a.args, termP t = 0 := by
  unfold atomP at h
  split at h
  · rename_i hn
    split at h
    · cases h
    · rename_i hl
      exact ⟨by simpa using hn, by omega, first_zero _ _ h⟩
  · cases h
theorem take_map {α β : Type} (F : α → β) (l : List α) (i : Nat) (h : i < l.length) : (l.take (i + 1)).map F = (l.take i).map F ++ [F l[i]] := by
  rw [List.take_succ_eq_append_getElem h, List.map_append]; rfl
theorem ok80 (a : At) (ha : atomP a = 0) (hr : ∀ t ∈ a.args, rngT t) : ∃ s : ByteArray, POk 80 [aA a] (.sc (.string s)) ∧ s.size ≤ 9000 ∧ 1 ≤ s.size := by
  obtain ⟨hname, hlen, hterm⟩ := atom_zero ha
  obtain ⟨F, hF⟩ := pickF a.args (fun t s => POk 95 [aT t] (.sc (.string s)) ∧ s.size ≤ 1030) fun t ht => ok95 t (hterm t ht) (hr t ht)
  have hps := name_size hname
  have hp1 : 1 ≤ a.pred.size := by simp [nameP] at hname; omega
  obtain ⟨s, hs, hs1, hs2⟩ := ok96 a.pred (a.args.map F) 1030 (by intro x hx; obtain ⟨t, ht, rfl⟩ := List.mem_map.1 hx; exact (hF t ht).2) (by simp; omega) (by simp; omega) hps
  simp only [List.length_map] at hs1
  refine ⟨s, ?_, by omega, by omega⟩
  refine fn_ok mixed (En_ok _ _ _ _) (pl := fun _ => []) (fn := Go.Proofs.Tryz.f80) (c := _) (by kernel_rfl) rfl (by decide) (by kernel_rfl) (E := E0) ?_
  conv => whnf
  refine use_pure (ok52 a) (nr1 (nr_aA _)) ⟨rfl, ?_⟩
  rw [ha]
  conv => whnf
  refine ⟨{ i : Nat // i ≤ a.args.length }, fun i => St [(1, .pp (.loc 1) 0), (4, vSo ((a.args.take i.1).map F)), (5, .sc (.int .i64 i.1))] [(1, .cells 0 (cA a))] [], fun i => a.args.length - i.1, ⟨0, Nat.zero_le _⟩, ?_, ?_⟩
  · exact wk_of ⟨avle_refl _, avle_nil _ _, avle_refl _, trivial⟩ ⟨oble_refl _, trivial⟩ rfl ⟨trivial, trivial, trivial, trivial⟩
  rintro ⟨i, hi⟩
  conv => whnf
  split
  · rename_i hlt
    have hlt : i < a.args.length := by simpa using hlt
    have hwrap : IntKind.i64.wrap ((i : Int) + 1) = ((i + 1 : Nat) : Int) := (wrap_small _ (by omega) (by omega)).trans (by omega)
    have htk := take_cells (g := cT) (n := 4) (fun _ => rfl) a.args i hlt
    have hir : (0 : Int) ≤ (i : Int) ∧ (i : Int) < a.args.length := ⟨Int.natCast_nonneg _, Int.ofNat_lt.2 hlt⟩
    have hc := (hF a.args[i] (List.getElem_mem hlt)).1
    have htm := take_map F a.args i hlt
    generalize a.args[i] = t at htk hc htm
    have happ : vSo ((a.args.take (i + 1)).map F) = .vec true 1 (((a.args.take i).map F).length + 1) (((a.args.take i).map F).flatMap cS ++ [.sc (.string (F t))]) := by rw [htm, vSo_app]
    have hl2 : ((a.args.take i).map F).length ≤ 8 := by simp; omega
    conv => whnf
    refine ⟨hir, _, htk, ?_⟩
    conv => whnf
    refine use_pure hc rfl ⟨rfl, ?_⟩
    conv => whnf
    refine ⟨⟨by show ((a.args.take i).map F).length + 1 ≤ _; omega, by show (((a.args.take i).map F).length + 1) * 16 ≤ _; omega, rfl⟩, ?_⟩
    conv => whnf
    exact ⟨⟨i + 1, hlt⟩, wk_of ⟨avle_refl _, avle_eq happ, avle_int hwrap, trivial⟩ ⟨oble_refl _, trivial⟩ rfl ⟨trivial, trivial, trivial, trivial⟩, Nat.sub_lt_sub_left hlt (Nat.lt_succ_self i)⟩
  · rename_i hlt
    have hlt : a.args.length ≤ i := by simpa using hlt
    have hts : (a.args.take i).map F = a.args.map F := by rw [List.take_of_length_le hlt]
    have hs3 : POk 96 [.sc (.string a.pred), vS ((a.args.take i).map F)] (.sc (.string s)) := by rw [hts]; exact hs
    conv => whnf
    refine use_pure hs3 (nr2 rfl (nr_vS _)) ⟨rfl, ?_⟩
    conv => whnf
    exact ⟨rfl, rfl⟩
def termsR (l : Lt) : Prop := (∀ t ∈ l.atom.args, rngT t) ∧ rngT l.left ∧ rngT l.right
theorem ok97 (l : Lt) (hl : litP l = 0) (hr : termsR l) : SOk 97 [aL l] 9100 := by
  by_cases k1 : l.kind = 1
  · have ha : atomP l.atom = 0 := by
      unfold litP at hl; rw [if_pos (.inl k1)] at hl
      split at hl
      · cases hl
      · exact hl
    obtain ⟨s, hs, h1, h2⟩ := ok80 l.atom ha hr.1
    refine ⟨s, ?_, by omega⟩
    refine fn_ok mixed (En_ok _ _ _ _) (pl := fun _ => []) (fn := Go.Proofs.Tryz.f97) (c := _) (by kernel_rfl) rfl (by decide) (by kernel_rfl) (E := E0) ?_
    conv => whnf
    refine use_pure (ok53 l) (nr1 (nr_aL _)) ⟨rfl, ?_⟩
    rw [hl]
    conv => whnf
    split
    case h_2 => rename_i e; exact absurd (of_decide_eq_false e) (fun h => h k1)
    conv => whnf
    refine use_pure hs (nr1 (nr_aA l.atom)) ⟨rfl, ?_⟩
    conv => whnf
    exact ⟨rfl, rfl⟩
  by_cases k2 : l.kind = 2
  · have ha : atomP l.atom = 0 := by
      unfold litP at hl; rw [if_pos (.inr k2)] at hl
      split at hl
      · cases hl
      · exact hl
    obtain ⟨s, hs, h1, h2⟩ := ok80 l.atom ha hr.1
    refine ⟨⟨#[110, 111, 116, 32]⟩ ++ s, ?_, by rw [size_app]; show 4 + _ ≤ _; omega⟩
    refine fn_ok mixed (En_ok _ _ _ _) (pl := fun _ => []) (fn := Go.Proofs.Tryz.f97) (c := _) (by kernel_rfl) rfl (by decide) (by kernel_rfl) (E := E0) ?_
    conv => whnf
    refine use_pure (ok53 l) (nr1 (nr_aL _)) ⟨rfl, ?_⟩
    rw [hl]
    conv => whnf
    split
    case h_1 => rename_i e; exact absurd (of_decide_eq_true e) k1
    conv => whnf
    split
    case h_2 => rename_i e; exact absurd (of_decide_eq_false e) (fun h => h k2)
    conv => whnf
    refine use_pure hs (nr1 (nr_aA l.atom)) ⟨rfl, ?_⟩
    conv => whnf
    refine ⟨by show 4 + s.size ≤ _; omega, ?_⟩
    conv => whnf
    exact ⟨rfl, rfl⟩
  unfold litP at hl; rw [if_neg (by omega)] at hl
  split at hl
  case isFalse => cases hl
  split at hl
  · cases hl
  have hz := first_zero _ _ hl
  obtain ⟨s1, hs1, h1⟩ := ok95 l.left (hz _ (by simp)) hr.2.1
  obtain ⟨s2, hs2, h2⟩ := ok95 l.right (hz _ (by simp)) hr.2.2
  obtain ⟨s3, hs3, h3⟩ := ok111 l.op
  have hl0 : litP l = 0 := by
    unfold litP; rw [if_neg (by omega), if_pos (by assumption), if_neg (by assumption)]; exact hl
  refine ⟨s1 ++ ⟨#[32]⟩ ++ s3 ++ ⟨#[32]⟩ ++ s2, ?_, by simp only [size_app]; show s1.size + 1 + _ + 1 + _ ≤ _; omega⟩
  refine fn_ok mixed (En_ok _ _ _ _) (pl := fun _ => (List.range 14).map Pl.one) (fn := Go.Proofs.Tryz.f97) (c := _) (by kernel_rfl) rfl (by decide) (by kernel_rfl) (E := E0) ?_
  conv => whnf
  refine use_pure (ok53 l) (nr1 (nr_aL _)) ⟨rfl, ?_⟩
  rw [hl0]
  conv => whnf
  split
  case h_1 => rename_i e; exact absurd (of_decide_eq_true e) k1
  conv => whnf
  split
  case h_1 => rename_i e; exact absurd (of_decide_eq_true e) k2
  conv => whnf
  refine And.intro (by kernel_rfl) ?_
  conv => whnf
  refine use_ex hs1 rfl ⟨rfl, ?_⟩
  conv => whnf
  refine ⟨by show s1.size + 1 ≤ _; omega, ?_⟩
  conv => whnf
  refine use_ex hs3 rfl ⟨rfl, ?_⟩
  conv => whnf
  refine ⟨by simp only [size_app]; show s1.size + 1 + _ ≤ _; omega, ?_⟩
  conv => whnf
  refine ⟨by simp only [size_app]; show s1.size + 1 + _ + 1 ≤ _; omega, ?_⟩
  conv => whnf
  refine use_ex hs2 rfl ⟨rfl, ?_⟩
  conv => whnf
  refine ⟨by simp only [size_app]; show s1.size + 1 + _ + 1 + _ ≤ _; omega, ?_⟩
  conv => whnf
  exact ⟨rfl, rfl⟩
theorem ok81 (ls : List Lt) (hn : ls.length ≤ 16) (hl : ∀ l ∈ ls, litP l = 0) (hr : ∀ l ∈ ls, termsR l) : SOk 81 [vL ls] 150000 := by
  obtain ⟨F, hF⟩ := pickF ls (fun t s => POk 97 [aL t] (.sc (.string s)) ∧ s.size ≤ 9100) fun t ht => ok97 t (hl t ht) (hr t ht)
  have hB : ∀ x ∈ ls.map F, x.size ≤ 9100 := by intro x hx; obtain ⟨t, ht, rfl⟩ := List.mem_map.1 hx; exact (hF t ht).2
  have hsz := listA_size 9100 (ls.map F) ⟨#[]⟩ 0 hB
  have h0 : (ByteArray.mk #[]).size = 0 := rfl
  simp only [List.length_map] at hsz
  refine ⟨listA ⟨#[]⟩ 0 (ls.map F), ?_, by omega⟩
  refine fn_ok mixed (En_ok _ _ _ _) (pl := fun _ => []) (fn := Go.Proofs.Tryz.f81) (c := _) (by kernel_rfl) rfl (by decide) (by kernel_rfl) (E := E0) ?_
  conv => whnf
  refine ⟨{ i : Nat // i ≤ ls.length }, fun i => St [(0, vL ls), (3, vSo ((ls.take i.1).map F)), (4, .sc (.int .i64 i.1))] [] [], fun i => ls.length - i.1, ⟨0, Nat.zero_le _⟩, ?_, ?_⟩
  · exact wk_of ⟨avle_refl _, avle_nil _ _, avle_refl _, trivial⟩ trivial rfl ⟨trivial, trivial, trivial, trivial⟩
  rintro ⟨i, hi⟩
  conv => whnf
  split
  · rename_i hlt
    have hlt : i < ls.length := by simpa using hlt
    have hwrap : IntKind.i64.wrap ((i : Int) + 1) = ((i + 1 : Nat) : Int) := (wrap_small _ (by omega) (by omega)).trans (by omega)
    have htk := take_cells (g := cL) (n := 14) (fun _ => rfl) ls i hlt
    have hir : (0 : Int) ≤ (i : Int) ∧ (i : Int) < ls.length := ⟨Int.natCast_nonneg _, Int.ofNat_lt.2 hlt⟩
    have hc := (hF ls[i] (List.getElem_mem hlt)).1
    have htm := take_map F ls i hlt
    generalize ls[i] = t at htk hc htm
    have happ : vSo ((ls.take (i + 1)).map F) = .vec true 1 (((ls.take i).map F).length + 1) (((ls.take i).map F).flatMap cS ++ [.sc (.string (F t))]) := by rw [htm, vSo_app]
    have hl2 : ((ls.take i).map F).length ≤ 16 := by simp; omega
    conv => whnf
    refine ⟨hir, _, htk, ?_⟩
    conv => whnf
    refine use_pure hc (nr1 (nr_aL t)) ⟨rfl, ?_⟩
    conv => whnf
    refine ⟨⟨by show ((ls.take i).map F).length + 1 ≤ _; omega, by show (((ls.take i).map F).length + 1) * 16 ≤ _; omega, rfl⟩, ?_⟩
    conv => whnf
    exact ⟨⟨i + 1, hlt⟩, wk_of ⟨avle_refl _, avle_eq happ, avle_int hwrap, trivial⟩ trivial rfl ⟨trivial, trivial, trivial, trivial⟩, Nat.sub_lt_sub_left hlt (Nat.lt_succ_self i)⟩
  · rename_i hlt
    have hlt : ls.length ≤ i := by simpa using hlt
    have hts : (ls.take i).map F = ls.map F := by rw [List.take_of_length_le hlt]
    have hs3 : POk 98 [vS ((ls.take i).map F)] (.sc (.string (listA ⟨#[]⟩ 0 (ls.map F)))) := by rw [hts]; exact ok98 _ 9100 hB (by simp; omega) (by simp; omega)
    conv => whnf
    refine use_pure hs3 (nr1 (nr_vS _)) ⟨rfl, ?_⟩
    conv => whnf
    exact ⟨rfl, rfl⟩
def clauseR (c : Cl) : Prop := (∀ t ∈ c.head.args, rngT t) ∧ ∀ l ∈ c.body, termsR l
theorem clause_zero {c : Cl} (h : clauseP c = 0) : atomP c.head = 0 ∧ c.body.length ≤ 16 ∧ ∀ l ∈ c.body, litP l = 0 := by
  unfold clauseP at h
  split at h
  · rename_i hn; exact absurd h hn
  · rename_i hn
    split at h
    · cases h
    · exact ⟨by simpa using hn, by omega, first_zero _ _ h⟩
/-- edictref04.Clause: a clause that is well formed has a text that is not empty. -/
theorem ok56 (c : Cl) (hc : clauseP c = 0) (hr : clauseR c) : ∃ s : ByteArray, POk 56 [aCl c] (.sc (.string s)) ∧ s ≠ ⟨#[]⟩ := by
  obtain ⟨h1, h2, h3⟩ := clause_zero hc
  obtain ⟨s, hs, hs1, hs2⟩ := ok80 c.head h1 hr.1
  obtain ⟨u, hu, hu1⟩ := ok81 c.body h2 h3 hr.2
  have hne : ∀ x : ByteArray, 1 ≤ x.size → x ≠ ⟨#[]⟩ := fun x h e => by subst e; exact absurd h (by decide)
  by_cases k : c.body.length = 0
  · refine ⟨s ++ ⟨#[46]⟩, ?_, hne _ (by rw [size_app]; omega)⟩
    refine fn_ok mixed (En_ok _ _ _ _) (pl := fun _ => []) (fn := Go.Proofs.Tryz.f56) (c := _) (by kernel_rfl) rfl (by decide) (by kernel_rfl) (E := E0) ?_
    conv => whnf
    refine use_pure (ok30 c) (nr1 (nr_aCl _)) ⟨rfl, ?_⟩
    rw [hc]
    conv => whnf
    split
    case h_2 => rename_i e; exact absurd (of_decide_eq_false e) (fun h => h (by omega))
    conv => whnf
    refine use_pure hs (nr1 (nr_aA c.head)) ⟨rfl, ?_⟩
    conv => whnf
    refine ⟨by show s.size + 1 ≤ _; omega, ?_⟩
    conv => whnf
    exact ⟨rfl, rfl⟩
  · refine ⟨s ++ ⟨#[32, 58, 45, 32]⟩ ++ u ++ ⟨#[46]⟩, ?_, hne _ (by simp only [size_app]; omega)⟩
    refine fn_ok mixed (En_ok _ _ _ _) (pl := fun _ => (List.range 10).map Pl.one) (fn := Go.Proofs.Tryz.f56) (c := _) (by kernel_rfl) rfl (by decide) (by kernel_rfl) (E := E0) ?_
    conv => whnf
    refine use_pure (ok30 c) (nr1 (nr_aCl _)) ⟨rfl, ?_⟩
    rw [hc]
    conv => whnf
    split
    case h_1 => rename_i e; exact absurd (of_decide_eq_true e) (fun h => k (by omega))
    conv => whnf
    refine And.intro (by kernel_rfl) ?_
    conv => whnf
    refine use_ex hs (nr1 (nr_aA c.head)) ⟨rfl, ?_⟩
    conv => whnf
    refine ⟨by show s.size + 4 ≤ _; omega, ?_⟩
    conv => whnf
    refine use_ex hu (nr1 (nr_vL c.body)) ⟨rfl, ?_⟩
    conv => whnf
    refine ⟨by simp only [size_app]; show s.size + 4 + _ ≤ _; omega, ?_⟩
    conv => whnf
    refine ⟨by simp only [size_app]; show s.size + 4 + _ + 1 ≤ _; omega, ?_⟩
    conv => whnf
    exact ⟨rfl, rfl⟩
end Go.Proofs.YtjchgncgkhofhaaGreat.AL
/- The program's functions in abstract words: Covers and Again (edictref18). -/
set_option linter.unusedVariables false
namespace Go.Proofs.YtjchgncgkhofhaaGreat.AL
open Go
attribute [local irreducible] PlainFn CallOk

/-- A clause that is well formed, its numbers in range. -/
def Gd (c : Cl) : Prop := clauseP c = 0 ∧ clauseR c
theorem lit_len {l : Lt} (h : litP l = 0) : (termsL l).length ≤ 8 := by
  unfold termsL
  split
  · simp
  · rename_i k
    unfold litP at h
    split at h
    · split at h
      · cases h
      · exact (atom_zero h).2.1
    · omega
theorem flat_len (ls : List Lt) (h : ∀ l ∈ ls, (termsL l).length ≤ 8) : (ls.flatMap termsL).length ≤ ls.length * 8 := by
  induction ls with
  | nil => simp
  | cons l r ih =>
    have h1 := h l (by simp)
    have h2 := ih fun x hx => h x (by simp [hx])
    simp only [List.flatMap_cons, List.length_append, List.length_cons, Nat.succ_mul]; omega
theorem Gd.body {c : Cl} (h : Gd c) : c.body.length ≤ 16 := (clause_zero h.1).2.1
theorem Gd.args {c : Cl} (h : Gd c) : c.head.args.length ≤ 8 := (atom_zero (clause_zero h.1).1).2.1
theorem Gd.all {c : Cl} (h : Gd c) : (allT c).length ≤ 136 := by
  have h1 := h.args
  have h2 := h.body
  have h3 := flat_len c.body fun l hl => lit_len ((clause_zero h.1).2.2 l hl)
  simp only [allT, List.length_append]; omega
theorem flatP_len (c : Cl) : (flatP c).length = c.body.length + 1 := by simp [flatP, flatB_len]
theorem flatB_things : ∀ (ls : List Lt) (n : Nat), (∀ l ∈ ls, (termsL l).length ≤ 8) → ∀ p ∈ flatB ls n, p.things.length ≤ 8
  | [], _, _, p, hp => by cases hp
  | l :: r, n, h, p, hp => by
    rcases List.mem_cons.1 hp with rfl | hp
    · simp only [partL, thP_len]; exact h l (by simp)
    · exact flatB_things r _ (fun x hx => h x (by simp [hx])) p hp
theorem Gd.things {c : Cl} (h : Gd c) : ∀ p ∈ flatP c, p.things.length ≤ 8 := by
  intro p hp
  rcases List.mem_cons.1 hp with rfl | hp
  · simp only [thP_len]; exact h.args
  · exact flatB_things c.body _ (fun l hl => lit_len ((clause_zero h.1).2.2 l hl)) p hp
theorem Gd.ok54 {c : Cl} (h : Gd c) : POk 54 [aCl c] (vP (flatP c)) := AL.ok54 c (by have := h.all; omega) (by have := h.body; omega)

def bodyP (c : Cl) : List Pt := flatB c.body (thN c.head.args 0)
def headP (c : Cl) : Pt := ⟨0, c.head.pred, 0, thP c.head.args 0⟩
theorem flatP_eq (c : Cl) : flatP c = headP c :: bodyP c := rfl
/-- edictref18.Covers, of clauses that are well formed -/
def covP (a b : Cl) : Bool := decide (a.body.length ≤ 6) && match fitP [] (headP a) (headP b) with | some w => reachP (bodyP b) (bodyP a).length w (bodyP a) | none => false
def rawTail (l : List Pt) : AV := .vec false 4 (((l.length : Int)).toNat - (1 : Int).toNat) (((l.flatMap cP).drop ((1 : Int).toNat * 4)).take ((((l.length : Int)).toNat - (1 : Int).toNat) * 4))
theorem rawTail_eq (x : Pt) (xs : List Pt) : rawTail (x :: xs) = vP xs := by
  have h1 : ((x :: xs).flatMap cP).drop ((1 : Int).toNat * 4) = xs.flatMap cP := rfl
  have h2 : (((x :: xs).length : Int)).toNat - (1 : Int).toNat = xs.length := by simp
  unfold rawTail
  rw [h1, h2, List.take_of_length_le (by rw [length_cells (g := cP) (n := 4) (fun _ => rfl)]; omega)]; rfl
set_option maxHeartbeats 1000000 in
theorem ok32 (a b : Cl) (ha : Gd a) (hb : Gd b) : POk 32 [aCl a, aCl b] (.sc (.bool (covP a b))) := by
  obtain ⟨s, hs, hs1⟩ := ok56 a ha.1 ha.2
  obtain ⟨u, hu, hu1⟩ := ok56 b hb.1 hb.2
  have hab := ha.body
  have hbb := hb.body
  refine fn_ok mixed (En_ok _ _ _ _) (pl := fun r => if r = 5 then (List.range 12).map Pl.one else (List.range 10).map Pl.one) (fn := Go.Proofs.Tryz.f32) (c := _) (by kernel_rfl) rfl (by decide) (by kernel_rfl) (E := E0) ?_
  conv => whnf
  refine use_pure hs (nr1 (nr_aCl a)) ⟨rfl, ?_⟩
  conv => whnf
  split
  · rename_i e; exact absurd (of_decide_eq_true e) hs1
  conv => whnf
  refine use_pure hu (nr1 (nr_aCl b)) ⟨rfl, ?_⟩
  conv => whnf
  split
  · rename_i e; exact absurd (of_decide_eq_true e) hu1
  conv => whnf
  split
  · rename_i e
    have e : decide ((a.body.length : Int) > 6) = true := e
    have e : ¬ a.body.length ≤ 6 := by have := of_decide_eq_true e; omega
    conv => whnf
    exact ⟨rfl, by simp [covP, e]⟩
  rename_i e
  have e : decide ((a.body.length : Int) > 6) = false := e
  have e : a.body.length ≤ 6 := by have := of_decide_eq_false e; omega
  have hx := take_cells (g := cP) (n := 4) (fun _ => rfl) (flatP a) 0 (by rw [flatP_len]; omega)
  have hy := take_cells (g := cP) (n := 4) (fun _ => rfl) (flatP b) 0 (by rw [flatP_len]; omega)
  have hlx : (0 : Int) < (flatP a).length := by rw [flatP_len]; omega
  have hly : (0 : Int) < (flatP b).length := by rw [flatP_len]; omega
  have h55 : POk 55 [.sc (.slice none 0 0), aPt (headP a), aPt (headP b)] (fitV (fitP [] (headP a) (headP b))) :=
    (ok55 [] (headP a) (headP b) (by have := ha.args; simp only [headP, thP_len, List.length_nil]; omega)).arg ⟨avle_nil _ _, avle_refl _, avle_refl _, trivial⟩ rfl
  have hcov : covP a b = match fitP [] (headP a) (headP b) with | some w => reachP (bodyP b) (bodyP a).length w (bodyP a) | none => false := by simp [covP, e]
  have hfl := @fitP_len [] 
  have h57 : ∀ w, fitP [] (headP a) (headP b) = some w → POk 57 [vW w, rawTail (flatP a), rawTail (flatP b)] (.sc (.bool (reachP (bodyP b) (bodyP a).length w (bodyP a)))) := by
    intro w hw
    have h1 := hfl hw
    have h2 := ha.args
    simp only [headP, thP_len, List.length_nil] at h1
    have h3 : (bodyP a).length = a.body.length := flatB_len _ _
    have h4 : (bodyP b).length = b.body.length := flatB_len _ _
    rw [flatP_eq, flatP_eq, rawTail_eq, rawTail_eq]
    exact ok57 (bodyP b) 8 (by omega) (bodyP a).length w (bodyP a) rfl (fun p hp => ha.things p (by rw [flatP_eq]; exact List.mem_cons_of_mem _ hp)) (by omega) (by omega)
  have nrt : ∀ c, nr (rawTail (flatP c)) = true := fun c => by rw [flatP_eq, rawTail_eq]; exact nr_vP _
  conv => whnf
  refine use_pure ha.ok54 (nr1 (nr_aCl a)) ⟨rfl, ?_⟩
  conv => whnf
  refine use_pure hb.ok54 (nr1 (nr_aCl b)) ⟨rfl, ?_⟩
  conv => whnf
  refine And.intro (by kernel_rfl) ?_
  conv => whnf
  refine ⟨⟨by decide, hlx⟩, _, hx, ?_⟩
  conv => whnf
  refine ⟨⟨by decide, hly⟩, _, hy, ?_⟩
  conv => whnf
  refine use_ex h55 (nr3' rfl (nr_aPt _) (nr_aPt _)) ⟨rfl, ?_⟩
  generalize fitP [] (headP a) (headP b) = o at hcov h57
  rw [hcov]
  conv => whnf
  refine And.intro (by kernel_rfl) ?_
  cases o with
  | none =>
    conv => whnf
    exact ⟨rfl, rfl⟩
  | some w =>
    conv => whnf
    refine ⟨⟨by decide, by show (1 : Int) ≤ (flatP a).length; omega, Int.le_refl _⟩, ?_⟩
    conv => whnf
    refine ⟨⟨by decide, by show (1 : Int) ≤ (flatP b).length; omega, Int.le_refl _⟩, ?_⟩
    conv => whnf
    refine use_ex (h57 w rfl) (nr3' (nr_vW _) (nrt _) (nrt _)) ⟨rfl, ?_⟩
    conv => whnf
    exact ⟨rfl, rfl⟩
def againA : Way → Way → List Pt → List Pt → Option Way
  | to, fr, x :: xs, y :: ys => match fitP to x y with
    | none => none
    | some to' => match fitP fr y x with
      | none => none
      | some fr' => againA to' fr' xs ys
  | to, _, _, _ => some to
def pairOk (p : Th × Th) : Bool := decide (p.2.kind = 4) && (decide (p.1.own > 0) == decide (p.2.own > 0))
/-- edictref18.Again -/
def agP (a b : Cl) : Bool := decide ((flatP a).length = (flatP b).length) && match againA [] [] (flatP a) (flatP b) with | none => false | some to => to.all pairOk
theorem againA_drop (to fr : Way) (xs ys : List Pt) (i : Nat) (h1 : i < xs.length) (h2 : i < ys.length) : againA to fr (xs.drop i) (ys.drop i) = match fitP to xs[i] ys[i] with
    | none => none
    | some to' => match fitP fr ys[i] xs[i] with
      | none => none
      | some fr' => againA to' fr' (xs.drop (i + 1)) (ys.drop (i + 1)) := by
  rw [List.drop_eq_getElem_cons h1, List.drop_eq_getElem_cons h2]; rw [againA]
set_option maxHeartbeats 2000000 in
theorem ok31 (a b : Cl) (ha : Gd a) (hb : Gd b) : POk 31 [aCl a, aCl b] (.sc (.bool (agP a b))) := by
  have hab := ha.body
  have hbb := hb.body
  refine fn_ok mixed (En_ok _ _ _ _) (pl := fun r => if r = 20 then (List.range 24).map Pl.one else (List.range 15).map Pl.one) (fn := Go.Proofs.Tryz.f31) (c := _) (by kernel_rfl) rfl (by decide) (by kernel_rfl) (E := E0) ?_
  have hta := ha.things
  have htb := hb.things
  have hla := flatP_len a
  have hlb := flatP_len b
  have h54a := ha.ok54
  have h54b := hb.ok54
  have hag : agP a b = (decide ((flatP a).length = (flatP b).length) && match againA [] [] (flatP a) (flatP b) with | none => false | some to => to.all pairOk) := rfl
  conv => whnf
  refine use_pure h54a (nr1 (nr_aCl a)) ⟨rfl, ?_⟩
  conv => whnf
  refine use_pure h54b (nr1 (nr_aCl b)) ⟨rfl, ?_⟩
  generalize hX : flatP a = X at *
  generalize hY : flatP b = Y at *
  clear hX hY h54a h54b
  conv => whnf
  split
  · rename_i h3
    have h3 : (!decide ((X.length : Int) = Y.length)) = true := h3
    have h3 : ¬ (X.length = Y.length) := by simp at h3; omega
    conv => whnf
    exact ⟨rfl, by rw [hag, decide_eq_false h3]; rfl⟩
  rename_i h3
  have h3 : (!decide ((X.length : Int) = Y.length)) = false := h3
  have h3 : X.length = Y.length := by simp at h3; omega
  rw [decide_eq_true h3, Bool.true_and] at hag
  conv => whnf
  refine ⟨{ p : Nat × Way × Way // againA [] [] X Y = againA p.2.1 p.2.2 (X.drop p.1) (Y.drop p.1) ∧ p.2.1.length ≤ p.1 * 8 ∧ p.2.2.length ≤ p.1 * 8 ∧ p.1 ≤ X.length }, fun p => St [(5, vP X), (6, vP Y), (7, vW p.1.2.1), (8, vW p.1.2.2), (9, .sc (.int .i64 p.1.1))] [] [], fun p => X.length - p.1.1, ⟨(0, [], []), rfl, Nat.le_refl _, Nat.le_refl _, Nat.zero_le _⟩, ?_, ?_⟩
  · exact wk_of ⟨avle_refl _, avle_refl _, avle_nil _ _, avle_nil _ _, avle_refl _, trivial⟩ trivial rfl ⟨trivial, trivial, trivial, trivial, trivial, trivial⟩
  rintro ⟨⟨i, to, fr⟩, h1, h2, h4, h5⟩
  simp only at h1 h2 h4 h5
  conv => whnf
  split
  · rename_i hlt
    have hlt : i < X.length := by simpa using hlt
    have hlt2 : i < Y.length := by omega
    have hwrap : IntKind.i64.wrap ((i : Int) + 1) = ((i + 1 : Nat) : Int) := (wrap_small _ (by omega) (by omega)).trans (by omega)
    rw [againA_drop _ _ _ _ _ hlt hlt2] at h1
    have htk := take_cells (g := cP) (n := 4) (fun _ => rfl) X i hlt
    have hir : (0 : Int) ≤ (i : Int) ∧ (i : Int) < X.length := ⟨Int.natCast_nonneg _, Int.ofNat_lt.2 hlt⟩
    have htk2 := take_cells (g := cP) (n := 4) (fun _ => rfl) Y i hlt2
    have hir2 : (0 : Int) ≤ (i : Int) ∧ (i : Int) < Y.length := ⟨Int.natCast_nonneg _, Int.ofNat_lt.2 hlt2⟩
    have hx := hta X[i] (List.getElem_mem hlt)
    have hy := htb Y[i] (List.getElem_mem hlt2)
    generalize X[i] = x at h1 htk hx
    generalize Y[i] = y at h1 htk2 hy
    have f1 := @fitP_len to
    have f2 := @fitP_len fr
    have g1 := ok55 to x y (by omega)
    have g2 := ok55 fr y x (by omega)
    conv => whnf
    refine And.intro (by kernel_rfl) ?_
    conv => whnf
    refine ⟨hir, _, htk, ?_⟩
    conv => whnf
    refine ⟨hir2, _, htk2, ?_⟩
    conv => whnf
    refine use_ex g1 (nr3' (nr_vW _) (nr_aPt _) (nr_aPt _)) ⟨rfl, ?_⟩
    clear g1
    generalize ho : fitP to x y = o at h1
    cases o with
    | none =>
      simp only at h1
      have hres : agP a b = false := by rw [hag, h1]
      conv => whnf
      exact ⟨rfl, avb hres.symm⟩
    | some to' =>
      have k1 := f1 ho
      simp only at h1
      conv => whnf
      refine And.intro (by kernel_rfl) ?_
      conv => whnf
      refine ⟨hir2, _, htk2, ?_⟩
      conv => whnf
      refine ⟨hir, _, htk, ?_⟩
      conv => whnf
      refine use_ex g2 (nr3' (nr_vW _) (nr_aPt _) (nr_aPt _)) ⟨rfl, ?_⟩
      clear g2
      generalize ho2 : fitP fr y x = o2 at h1
      cases o2 with
      | none =>
        simp only at h1
        have hres : agP a b = false := by rw [hag, h1]
        conv => whnf
        exact ⟨rfl, avb hres.symm⟩
      | some fr' =>
        have k2 := f2 ho2
        simp only at h1
        conv => whnf
        exact ⟨⟨(i + 1, to', fr'), h1, by show to'.length ≤ (i + 1) * 8; omega, by show fr'.length ≤ (i + 1) * 8; omega, hlt⟩, wk_of ⟨avle_refl _, avle_refl _, avle_refl _, avle_refl _, avle_int hwrap, trivial⟩ trivial rfl ⟨trivial, trivial, trivial, trivial, trivial, trivial⟩, Nat.sub_lt_sub_left hlt (Nat.lt_succ_self i)⟩
  rename_i hlt
  have hlt : X.length ≤ i := by simpa using hlt
  rw [List.drop_of_length_le hlt] at h1
  have h1 : againA [] [] X Y = some to := by rw [h1]; simp [againA]
  rw [h1] at hag
  simp only at hag
  have htl : to.length ≤ 136 := by omega
  conv => whnf
  refine ⟨{ j : Nat // agP a b = (to.drop j).all pairOk ∧ j ≤ to.length }, fun j => St [(7, vW to), (11, .sc (.int .i64 j.1))] [] [], fun j => to.length - j.1, ⟨0, hag, Nat.zero_le _⟩, ?_, ?_⟩
  · exact wk_of ⟨avle_refl _, avle_refl _, trivial⟩ trivial rfl ⟨trivial, trivial, trivial⟩
  rintro ⟨j, hj, hjl⟩
  conv => whnf
  split
  case h_2 =>
    rename_i hlt
    have hlt : to.length ≤ j := by simpa using hlt
    rw [List.drop_of_length_le hlt] at hj
    conv => whnf
    exact ⟨rfl, avb (hj.trans rfl).symm⟩
  rename_i hlt2
  have hlt2 : j < to.length := by simpa using hlt2
  have hwrap : IntKind.i64.wrap ((j : Int) + 1) = ((j + 1 : Nat) : Int) := (wrap_small _ (by omega) (by omega)).trans (by omega)
  rw [all_drop _ _ _ hlt2] at hj
  have htk := take_cells (g := cW) (n := 8) (fun _ => rfl) to j hlt2
  have hir : (0 : Int) ≤ (j : Int) ∧ (j : Int) < to.length := ⟨Int.natCast_nonneg _, Int.ofNat_lt.2 hlt2⟩
  generalize to[j] = p at hj htk
  obtain ⟨x, y⟩ := p
  have bad : pairOk (x, y) = false → agP a b = false := fun e => by rw [hj, e]; rfl
  have good : pairOk (x, y) = true → agP a b = (to.drop (j + 1)).all pairOk := fun e => by rw [hj, e]; rfl
  conv => whnf
  refine And.intro (by kernel_rfl) ?_
  conv => whnf
  refine ⟨hir, _, htk, ?_⟩
  conv => whnf
  split
  · rename_i e
    have e : (!decide (y.kind = 4)) = true := e
    have e : decide (y.kind = 4) = false := by simpa using e
    have hb := bad (by simp only [pairOk, e]; rfl)
    conv => whnf
    exact ⟨rfl, avb hb.symm⟩
  rename_i e
  have e : (!decide (y.kind = 4)) = false := e
  have e : decide (y.kind = 4) = true := by simpa using e
  conv => whnf
  refine ⟨hir, _, htk, ?_⟩
  conv => whnf
  refine ⟨hir, _, htk, ?_⟩
  conv => whnf
  split
  · rename_i e2
    have e2 : (!(decide (x.own > 0) == decide (y.own > 0))) = true := e2
    have e2 : (decide (x.own > 0) == decide (y.own > 0)) = false := by simpa using e2
    have hb := bad (by simp only [pairOk, e, e2]; rfl)
    conv => whnf
    exact ⟨rfl, avb hb.symm⟩
  · rename_i e2
    have e2 : (!(decide (x.own > 0) == decide (y.own > 0))) = false := e2
    have e2 : (decide (x.own > 0) == decide (y.own > 0)) = true := by rw [Bool.not_eq_false'] at e2; exact e2
    have hg := good (by simp only [pairOk, e, e2]; rfl)
    conv => whnf
    exact ⟨⟨j + 1, hg, hlt2⟩, wk_of ⟨avle_refl _, avle_int hwrap, trivial⟩ trivial rfl ⟨trivial, trivial, trivial⟩, Nat.sub_lt_sub_left hlt2 (Nat.lt_succ_self j)⟩
end Go.Proofs.YtjchgncgkhofhaaGreat.AL
/- The program's functions in abstract words: twice and covered (edictref18). -/
set_option linter.unusedVariables false
namespace Go.Proofs.YtjchgncgkhofhaaGreat.AL
open Go
attribute [local irreducible] PlainFn CallOk

def twP (p : List Cl) (i : Nat) (c : Cl) : Int := idxP (fun d => agP c d) (p.take i) 0
theorem ok13 (p : List Cl) (i : Nat) (c : Cl) (hg : ∀ c ∈ p, Gd c) (hl : p.length ≤ 1000000) (hi : p[i]? = some c) : POk 13 [vC p, .sc (.int .i64 i)] (.sc (.int .i64 (twP p i c))) := by
  obtain ⟨hil, hci⟩ := List.getElem?_eq_some_iff.1 hi
  have hgc : Gd c := by rw [← hci]; exact hg _ (List.getElem_mem hil)
  refine fn_ok mixed (En_ok _ _ _ _) (pl := fun _ => (List.range 9).map Pl.one) (fn := Go.Proofs.Tryz.f13) (c := _) (by kernel_rfl) rfl (by decide) (by kernel_rfl) (E := E0) ?_
  have htk := take_cells (g := cC) (n := 4) (fun _ => rfl) p i hil
  rw [hci] at htk
  have hir : (0 : Int) ≤ (i : Int) ∧ (i : Int) < p.length := ⟨Int.natCast_nonneg _, Int.ofNat_lt.2 hil⟩
  clear hci
  conv => whnf
  refine ⟨{ j : Nat // twP p i c = idxP (fun d => agP c d) ((p.take i).drop j) j ∧ j ≤ i }, fun j => St [(0, vC p), (1, .sc (.int .i64 i)), (5, .sc (.int .i64 j.1))] [] [], fun j => i - j.1, ⟨0, rfl, Nat.zero_le _⟩, ?_, ?_⟩
  · exact wk_of ⟨avle_refl _, avle_refl _, avle_refl _, trivial⟩ trivial rfl ⟨trivial, trivial, trivial, trivial⟩
  rintro ⟨j, hinv, hji⟩
  conv => whnf
  split
  case h_2 =>
    rename_i hlt
    have hlt : i ≤ j := by simpa using hlt
    rw [List.drop_of_length_le (by simp; omega)] at hinv
    conv => whnf
    exact ⟨rfl, avi hinv.symm⟩
  rename_i hlt
  have hlt : j < i := by simpa using hlt
  have hjl : j < p.length := by omega
  have hjt : j < (p.take i).length := by simp; omega
  have hwrap : IntKind.i64.wrap ((j : Int) + 1) = ((j + 1 : Nat) : Int) := (wrap_small _ (by omega) (by omega)).trans (by omega)
  rw [idx_drop _ _ _ hjt, List.getElem_take] at hinv
  have htk2 := take_cells (g := cC) (n := 4) (fun _ => rfl) p j hjl
  have hir2 : (0 : Int) ≤ (j : Int) ∧ (j : Int) < p.length := ⟨Int.natCast_nonneg _, Int.ofNat_lt.2 hjl⟩
  have hgd := hg p[j] (List.getElem_mem hjl)
  generalize p[j] = d at hinv htk2 hgd
  conv => whnf
  refine And.intro (by kernel_rfl) ?_
  conv => whnf
  refine ⟨hir, _, htk, ?_⟩
  conv => whnf
  refine ⟨hir2, _, htk2, ?_⟩
  conv => whnf
  refine use_ex (ok31 c d hgc hgd) (nr2 (nr_aCl _) (nr_aCl _)) ⟨rfl, ?_⟩
  conv => whnf
  split
  · rename_i e
    have e : agP c d = true := e
    rw [if_pos e] at hinv
    conv => whnf
    exact ⟨rfl, avi hinv.symm⟩
  · rename_i e
    have e : agP c d = false := e
    rw [if_neg (by rw [e]; decide)] at hinv
    conv => whnf
    exact ⟨⟨j + 1, hinv, hlt⟩, wk_of ⟨avle_refl _, avle_refl _, avle_int hwrap, trivial⟩ trivial rfl ⟨trivial, trivial, trivial, trivial⟩, Nat.sub_lt_sub_left hlt (Nat.lt_succ_self j)⟩
def idxN {α : Type} (f : Nat → α → Bool) : List α → Nat → Int
  | [], _ => -1
  | x :: l, i => if f i x = true then (i : Int) else idxN f l (i + 1)
theorem idxN_drop {α : Type} (f : Nat → α → Bool) (l : List α) (i : Nat) (h : i < l.length) : idxN f (l.drop i) i = if f i l[i] = true then (i : Int) else idxN f (l.drop (i + 1)) (i + 1) := by
  rw [List.drop_eq_getElem_cons h]; rfl
def cvF (i : Nat) (c : Cl) (j : Nat) (d : Cl) : Bool := !decide (j = i) && decide (d.head.pred = c.head.pred) && covP d c && (decide (j < i) || !covP c d)
def cvP (p : List Cl) (i : Nat) (c : Cl) : Int := idxN (cvF i c) p 0
set_option maxHeartbeats 1000000 in
theorem ok14 (p : List Cl) (i : Nat) (c : Cl) (hg : ∀ c ∈ p, Gd c) (hl : p.length ≤ 1000000) (hi : p[i]? = some c) : POk 14 [vC p, .sc (.int .i64 i)] (.sc (.int .i64 (cvP p i c))) := by
  obtain ⟨hil, hci⟩ := List.getElem?_eq_some_iff.1 hi
  have hgc : Gd c := by rw [← hci]; exact hg _ (List.getElem_mem hil)
  refine fn_ok mixed (En_ok _ _ _ _) (pl := fun r => if r = 4 then (List.range 18).map Pl.one else (List.range 26).map Pl.one) (fn := Go.Proofs.Tryz.f14) (c := _) (by kernel_rfl) rfl (by decide) (by kernel_rfl) (E := E0) ?_
  have htk := take_cells (g := cC) (n := 4) (fun _ => rfl) p i hil
  rw [hci] at htk
  have hir : (0 : Int) ≤ (i : Int) ∧ (i : Int) < p.length := ⟨Int.natCast_nonneg _, Int.ofNat_lt.2 hil⟩
  clear hci
  conv => whnf
  refine ⟨{ j : Nat // cvP p i c = idxN (cvF i c) (p.drop j) j }, fun j => St [(0, vC p), (1, .sc (.int .i64 i)), (5, .sc (.int .i64 j.1))] [] [], fun j => p.length - j.1, ⟨0, rfl⟩, ?_, ?_⟩
  · exact wk_of ⟨avle_refl _, avle_refl _, avle_refl _, trivial⟩ trivial rfl ⟨trivial, trivial, trivial, trivial⟩
  rintro ⟨j, hinv⟩
  conv => whnf
  split
  case h_2 =>
    rename_i hlt
    have hlt : p.length ≤ j := by simpa using hlt
    rw [List.drop_of_length_le hlt] at hinv
    conv => whnf
    exact ⟨rfl, avi hinv.symm⟩
  rename_i hlt
  have hlt : j < p.length := by simpa using hlt
  have hwrap : IntKind.i64.wrap ((j : Int) + 1) = ((j + 1 : Nat) : Int) := (wrap_small _ (by omega) (by omega)).trans (by omega)
  rw [idxN_drop _ _ _ hlt] at hinv
  have htk2 := take_cells (g := cC) (n := 4) (fun _ => rfl) p j hlt
  have hir2 : (0 : Int) ≤ (j : Int) ∧ (j : Int) < p.length := ⟨Int.natCast_nonneg _, Int.ofNat_lt.2 hlt⟩
  have hgd := hg p[j] (List.getElem_mem hlt)
  generalize p[j] = d at hinv htk2 hgd
  have next : cvF i c j d = false → cvP p i c = idxN (cvF i c) (p.drop (j + 1)) (j + 1) := fun e => by rw [hinv, if_neg (by rw [e]; decide)]
  have stop : cvF i c j d = true → cvP p i c = (j : Int) := fun e => by rw [hinv, if_pos e]
  conv => whnf
  refine And.intro (by kernel_rfl) ?_
  conv => whnf
  split
  · rename_i e
    have e : decide ((j : Int) = i) = true := e
    have e : j = i := by have := of_decide_eq_true e; omega
    have hn := next (by simp [cvF, e])
    conv => whnf
    exact ⟨⟨j + 1, hn⟩, wk_of ⟨avle_refl _, avle_refl _, avle_int hwrap, trivial⟩ trivial rfl ⟨trivial, trivial, trivial, trivial⟩, Nat.sub_lt_sub_left hlt (Nat.lt_succ_self j)⟩
  rename_i e
  have e : decide ((j : Int) = i) = false := e
  have e : ¬ j = i := by have := of_decide_eq_false e; omega
  conv => whnf
  refine ⟨hir2, _, htk2, ?_⟩
  conv => whnf
  refine ⟨hir, _, htk, ?_⟩
  conv => whnf
  split
  · rename_i e2
    have e2 : (!decide (d.head.pred = c.head.pred)) = true := e2
    have e2 : decide (d.head.pred = c.head.pred) = false := by simpa using e2
    have hn := next (by simp [cvF, e2])
    conv => whnf
    exact ⟨⟨j + 1, hn⟩, wk_of ⟨avle_refl _, avle_refl _, avle_int hwrap, trivial⟩ trivial rfl ⟨trivial, trivial, trivial, trivial⟩, Nat.sub_lt_sub_left hlt (Nat.lt_succ_self j)⟩
  rename_i e2
  have e2 : (!decide (d.head.pred = c.head.pred)) = false := e2
  have e2 : decide (d.head.pred = c.head.pred) = true := by simpa using e2
  conv => whnf
  refine And.intro (by kernel_rfl) ?_
  conv => whnf
  refine ⟨hir2, _, htk2, ?_⟩
  conv => whnf
  refine ⟨hir, _, htk, ?_⟩
  conv => whnf
  refine use_ex (ok32 d c hgd hgc) (nr2 (nr_aCl _) (nr_aCl _)) ⟨rfl, ?_⟩
  conv => whnf
  split
  case h_2 =>
    rename_i e3
    have e3 : covP d c = false := e3
    have hn := next (by simp [cvF, e3])
    conv => whnf
    exact ⟨⟨j + 1, hn⟩, wk_of ⟨avle_refl _, avle_refl _, avle_int hwrap, trivial⟩ trivial rfl ⟨trivial, trivial, trivial, trivial⟩, Nat.sub_lt_sub_left hlt (Nat.lt_succ_self j)⟩
  rename_i e3
  have e3 : covP d c = true := e3
  conv => whnf
  split
  · rename_i e4
    have e4 : decide ((j : Int) < i) = true := e4
    have e4 : j < i := by have := of_decide_eq_true e4; omega
    have hs := stop (by simp only [cvF, e2, e3, decide_eq_false e, decide_eq_true e4]; rfl)
    conv => whnf
    exact ⟨rfl, avi hs.symm⟩
  rename_i e4
  have e4 : decide ((j : Int) < i) = false := e4
  have e4 : ¬ j < i := by have := of_decide_eq_false e4; omega
  conv => whnf
  refine ⟨hir, _, htk, ?_⟩
  conv => whnf
  refine ⟨hir2, _, htk2, ?_⟩
  conv => whnf
  refine use_ex (ok32 c d hgc hgd) (nr2 (nr_aCl _) (nr_aCl _)) ⟨rfl, ?_⟩
  conv => whnf
  split
  · rename_i e5
    have e5 : (!covP c d) = true := e5
    have hs := stop (by simp only [cvF, e2, e3, e5, decide_eq_false e, decide_eq_false e4]; rfl)
    conv => whnf
    exact ⟨rfl, avi hs.symm⟩
  · rename_i e5
    have e5 : (!covP c d) = false := e5
    have hn := next (by simp only [cvF, e2, e3, e5, decide_eq_false e, decide_eq_false e4]; rfl)
    conv => whnf
    exact ⟨⟨j + 1, hn⟩, wk_of ⟨avle_refl _, avle_refl _, avle_int hwrap, trivial⟩ trivial rfl ⟨trivial, trivial, trivial, trivial⟩, Nat.sub_lt_sub_left hlt (Nat.lt_succ_self j)⟩
end Go.Proofs.YtjchgncgkhofhaaGreat.AL
