/- The A-logic: regions whose order is drawn: plans. -/
import Derived.Test.YtjchgncgkhofhaaGreatM6
set_option linter.unusedVariables false
set_option linter.unusedSimpArgs false
namespace Go.Proofs.YtjchgncgkhofhaaGreat.AL
open Go

/-- All orders that the edges allow. -/
def anyA (E : Env) (ops : Array Oper) : Nat → Array Bool → ASt → (ASt → Prop) → Prop
  | 0, l, st, K => Region.ready .any ops l = [] ∧ K st
  | n + 1, l, st, K => (Region.ready .any ops l = [] → K st) ∧ ∀ i ∈ Region.ready .any ops l, ∀ o, ops[i]? = some o → astep E ops.toList o st fun st' => anyA E ops n (l.setIfInBounds i true) st' K

/-- Does j wait for i, through others too? -/
def waits (ops : Array Oper) : Nat → Nat → Nat → Bool
  | 0, _, _ => false
  | n + 1, i, j => match ops[j]? with
    | some o => o.after.any fun e => Region.binds .any e && (e.on == i || waits ops n i e.on)
    | none => false

def DC (ops : Array Oper) (l : Array Bool) : Prop := ∀ (j : Nat) (o : Oper), ops[j]? = some o → l.getD j true = true → j < l.size → ∀ e ∈ o.after, Region.binds .any e = true → l.getD e.on false = true

theorem waits_listed {ops : Array Oper} {l : Array Bool} (hdc : DC ops l) {i : Nat} : ∀ (n j : Nat), (∀ o, ops[j]? = some o → ∀ e ∈ o.after, Region.binds .any e = true → l.getD e.on false = true) → waits ops n i j = true → l.getD i false = true
  | 0, j, _, h => by simp [waits] at h
  | n + 1, j, hj, h => by
    unfold waits at h
    split at h
    case h_2 => cases h
    rename_i o ho
    obtain ⟨e, he, hb⟩ := Array.any_eq_true'.1 h
    simp only [Bool.and_eq_true, Bool.or_eq_true, beq_iff_eq] at hb
    have hl := hj o ho e he hb.1
    rcases hb.2 with rfl | hw
    · exact hl
    · refine waits_listed hdc n e.on (fun o' ho' e' he' hb' => ?_) hw
      have hlt : e.on < l.size := by
        rcases Nat.lt_or_ge e.on l.size with k | k
        · exact k
        · simp [Array.getElem?_eq_none k] at hl
      refine hdc e.on o' ho' ?_ hlt e' he' hb'
      simp [hlt] at hl ⊢; exact hl

def mayPass (E : Env) (ops : Array Oper) (oi oj : Oper) : Bool :=
  oi.apart ops oj && !isMk oj.op && (clsO E ops.toList oi == 0 || decide (clsO E ops.toList oj ≤ 3) || (clsO E ops.toList oi == 1 && decide (clsO E ops.toList oj ≤ 4)))

/-- May i go first, whatever the others do? -/
def freeA (E : Env) (ops : Array Oper) (l : Array Bool) (i : Nat) : Bool :=
  match ops[i]? with
  | none => false
  | some oi => decide (clsO E ops.toList oi ≤ 2) && (List.range ops.size).all fun j => j == i || l.getD j true || waits ops ops.size i j || match ops[j]? with
      | some oj => mayPass E ops oi oj
      | none => true

section
variable {E : Env} {ops : Array Oper} {K : ASt → Prop}

theorem astep_mono {E0 : Env} (he : E = E0.exact) {o : Oper} {st : ASt} {K' : ASt → Prop} (h : astep E ops.toList o st K) (hk : ∀ st, K st → K' st) : astep E ops.toList o st K' := by
  obtain ⟨f, m⟩ := st
  have hC : ∀ g args gs A B, E.C g args gs A → (∀ v gs, A v gs → B v gs) → E.C g args gs B := by
    subst he
    rintro g args gs A B ⟨v, gs', q1, q2⟩ hab
    exact ⟨v, gs', q1, hab _ _ q2⟩
  rw [astep_eq] at *
  cases hg : gst ops.toList o f with
  | none => rw [hg] at h; exact h
  | some b =>
    rw [hg] at h
    cases b with
    | false => exact hk _ h
    | true =>
      simp only at h ⊢
      unfold AO at *
      exact aopC_imp hC h (call_head f) (tk := tki E ops.toList o) fun u m' _ _ q => hk _ q

theorem anyA_first {E0 : Env} (he : E = E0.exact) {i : Nat} {oi : Oper} {v : AV} (hi : ops[i]? = some oi) : ∀ (fuel : Nat) (l : Array Bool) (st : ASt), DC ops l →
    (∀ (j : Nat) (oj : Oper), ops[j]? = some oj → j ≠ i → l.getD j true = false → waits ops ops.size i j = false → mayPass E ops oi oj = true) → i ∈ Region.ready .any ops l →
    (∀ st' : ASt, slotSim ops oi st.f st'.f → simAt (clsO E ops.toList oi) st.m st'.m → ∀ KK : ASt → Prop, KK ⟨putF oi.dst v st'.f, st'.m⟩ → astep E ops.toList oi st' KK) →
    anyA E ops fuel (l.setIfInBounds i true) ⟨putF oi.dst v st.f, st.m⟩ K → anyA E ops (fuel + 1) l st K := by
  intro fuel
  induction fuel with
  | zero =>
    intro l st hdc hfree hr hy H
    refine ⟨fun h => (by rw [h] at hr; cases hr), fun j hj oj hoj => ?_⟩
    by_cases hji : j = i
    · subst hji
      rw [hi] at hoj; injection hoj with hoj; subst hoj
      exact hy st (fun _ _ => rfl) (.inr (.inl (.refl _))) _ H
    · have := ready_mono hj hji
      rw [H.1] at this
      cases this
  | succ fuel ih =>
    intro l st hdc hfree hr hy H
    refine ⟨fun h => (by rw [h] at hr; cases hr), fun j hj oj hoj => ?_⟩
    by_cases hji : j = i
    · subst hji
      rw [hi] at hoj; injection hoj with hoj; subst hoj
      exact hy st (fun _ _ => rfl) (.inr (.inl (.refl _))) _ H
    · have h1 := H.2 j (ready_mono hj hji) oj hoj
      obtain ⟨hjun, oj', hoj', hall⟩ := mem_ready.1 hj
      rw [hoj] at hoj'; injection hoj' with hoj'; subst hoj'
      have hiun := (mem_ready.1 hr).1
      have hnw : waits ops ops.size i j = false := by
        cases hw : waits ops ops.size i j with
        | false => rfl
        | true =>
          have := waits_listed hdc ops.size j (fun o ho e he' hb => by rw [hoj] at ho; injection ho with ho; subst ho; exact hall e he' hb) hw
          rcases Nat.lt_or_ge i l.size with k | k
          · simp [k] at hiun this; rw [hiun] at this; cases this
          · simp [Array.getElem?_eq_none k] at this
      have hmp := hfree j oj hoj hji hjun hnw
      simp only [mayPass, Bool.and_eq_true, Bool.not_eq_true', Bool.or_eq_true, beq_iff_eq, decide_eq_true_eq] at hmp
      have hcl : clsO E ops.toList oi = 0 ∨ clsO E ops.toList oj ≤ 3 ∨ (clsO E ops.toList oi = 1 ∧ clsO E ops.toList oj ≤ 4) := by
        rcases hmp.2 with (h | h) | h
        · exact .inl h
        · exact .inr (.inl h)
        · exact .inr (.inr h)
      have h2 := astep_comm he hmp.1.1 hmp.1.2 hcl h1
      refine astep_mono he h2 fun st' h3 => ?_
      obtain ⟨⟨s1, s2⟩, h3⟩ := h3
      have hlj : (l.setIfInBounds j true).getD j true = true := by
        simp only [Array.getD_eq_getD_getElem?]
        rw [Array.getElem?_setIfInBounds]
        by_cases hs : j < l.size <;> simp [hs]
      refine ih (l.setIfInBounds j true) st' ?_ ?_ (ready_mono hr (Ne.symm hji)) ?_ ?_
      · intro k o ho hk hks e he' hb
        by_cases hkj : k = j
        · subst hkj
          rw [hoj] at ho; injection ho with ho; subst ho
          exact getD_set_true (hall e he' hb)
        · rw [getD_set_ne true (fun x => hkj x.symm)] at hk
          exact getD_set_true (hdc k o ho hk (by simpa using hks) e he' hb)
      · intro k ok hk hki hun hno
        refine hfree k ok hk hki ?_ hno
        by_cases hjk : j = k
        · subst hjk; exact hjun
        · rw [getD_set_ne true hjk] at hun; exact hun
      · intro st2 q1 q2 KK hk
        exact hy st2 (fun t ht => (q1 t ht).trans (s1 t ht)) (s2.trans q2) KK hk
      · rw [Array.setIfInBounds_comm _ _ hji]
        exact h3

theorem anyA_done {l : Array Bool} {st : ASt} (hr : Region.ready .any ops l = []) (h : K st) : ∀ fuel, anyA E ops fuel l st K
  | 0 => ⟨hr, h⟩
  | _ + 1 => ⟨fun _ => h, by rw [hr]; simp⟩

/-! ### Plans -/
def seqOk (E : Env) (ops : Array Oper) : List Nat → Array Bool → Option (Array Bool)
  | [], l => some l
  | i :: r, l => if ((Region.ready .any ops l).contains i && (Region.ready .any ops l == [i] || freeA E ops l i)) = true then seqOk E ops r (l.setIfInBounds i true) else none
def aseq (E : Env) (all : List Oper) : List Nat → ASt → (ASt → Prop) → Prop
  | [], st, K => K st
  | i :: r, st, K => match all[i]? with
    | some o => astep E all o st fun st => aseq E all r st K
    | none => False

inductive Pl where
  | one (i : Nat)
  | two (i : Nat) (p : List Nat) (j : Nat) (q : List Nat)
  | mix (i : Nat) (p : List Nat)

/-- One operation somewhere among others that stand in order. -/
def amix (E : Env) (all : List Oper) (i : Nat) : List Nat → ASt → (ASt → Prop) → Prop
  | [], st, K => aseq E all [i] st K
  | x :: p, st, K => aseq E all (i :: x :: p) st K ∧ (match all[x]? with
    | some o => astep E all o st fun st => amix E all i p st K
    | none => False)
def mixOk (E : Env) (ops : Array Oper) (i : Nat) : List Nat → Array Bool → Option (Array Bool)
  | [], l => seqOk E ops [i] l
  | x :: p, l => if (Region.ready .any ops l == [i, x] || Region.ready .any ops l == [x, i]) = true then (match seqOk E ops (x :: p) (l.setIfInBounds i true), mixOk E ops i p (l.setIfInBounds x true) with
    | some a, some b => if (a == b) = true then some a else none
    | _, _ => none) else none
def planOk (E : Env) (ops : Array Oper) : List Pl → Array Bool → Bool
  | [], l => Region.ready .any ops l == []
  | .one i :: r, l => match seqOk E ops [i] l with | some l' => planOk E ops r l' | none => false
  | .two i p j q :: r, l => (Region.ready .any ops l == [i, j]) && (p.length == q.length) && match seqOk E ops p (l.setIfInBounds i true), seqOk E ops q (l.setIfInBounds j true) with
    | some a, some b => (a == b) && planOk E ops r a
    | _, _ => false
  | .mix i p :: r, l => match mixOk E ops i p l with | some a => planOk E ops r a | none => false
def planLen : List Pl → Nat
  | [] => 0
  | .one _ :: r => planLen r + 1
  | .two _ p _ _ :: r => planLen r + (p.length + 1)
  | .mix _ p :: r => planLen r + (p.length + 1)
def aplan (E : Env) (all : List Oper) : List Pl → ASt → (ASt → Prop) → Prop
  | [], st, K => K st
  | .one i :: r, st, K => match all[i]? with
    | some o => astep E all o st fun st => aplan E all r st K
    | none => False
  | .two i p j q :: r, st, K => ∃ st', aseq E all (i :: p) st (· = st') ∧ aseq E all (j :: q) st (· = st') ∧ aplan E all r st' K
  | .mix i p :: r, st, K => amix E all i p st fun st => aplan E all r st K

theorem DC_set {l : Array Bool} (hdc : DC ops l) {i : Nat} (hi : i ∈ Region.ready .any ops l) : DC ops (l.setIfInBounds i true) := by
  obtain ⟨_, oi, hoi, hall⟩ := mem_ready.1 hi
  intro k o ho hk hks e he' hb
  by_cases hkj : k = i
  · subst hkj
    rw [hoi] at ho; injection ho with ho; subst ho
    exact getD_set_true (hall e he' hb)
  · rw [getD_set_ne true (fun x => hkj x.symm)] at hk
    exact getD_set_true (hdc k o ho hk (by simpa using hks) e he' hb)

theorem freeA_spec {l : Array Bool} {i : Nat} {oi : Oper} (hi : ops[i]? = some oi) (h : freeA E ops l i = true) : clsO E ops.toList oi ≤ 2 ∧
    ∀ (j : Nat) (oj : Oper), ops[j]? = some oj → j ≠ i → l.getD j true = false → waits ops ops.size i j = false → mayPass E ops oi oj = true := by
  simp only [freeA, hi, Bool.and_eq_true, decide_eq_true_eq, List.all_eq_true, List.mem_range, Bool.or_eq_true, beq_iff_eq] at h
  refine ⟨h.1, fun j oj hj hne hun hw => ?_⟩
  have h1 := h.2 j (Array.getElem?_eq_some_iff.1 hj).1
  simp only [hj] at h1
  rcases h1 with ((h1 | h1) | h1) | h1
  · exact absurd h1 hne
  · rw [hun] at h1; cases h1
  · rw [hw] at h1; cases h1
  · exact h1

theorem seq_any {E0 : Env} (he : E = E0.exact) {K1 : ASt → Prop} {n : Nat} : ∀ (p : List Nat) (l l' : Array Bool) (st : ASt), seqOk E ops p l = some l' → DC ops l → aseq E ops.toList p st K1 → (∀ st', DC ops l' → K1 st' → anyA E ops n l' st' K) → anyA E ops (n + p.length) l st K
  | [], l, l', st, h, hdc, ha, hk => by
    simp only [seqOk, Option.some.injEq] at h; subst h
    exact hk st hdc ha
  | i :: r, l, l', st, h, hdc, ha, hk => by
    simp only [seqOk] at h
    split at h
    case isFalse => cases h
    rename_i hh
    simp only [Bool.and_eq_true, Bool.or_eq_true, List.contains_iff_mem] at hh
    obtain ⟨hir, hcase⟩ := hh
    obtain ⟨_, oi, hoi, _⟩ := mem_ready.1 hir
    have hoi' : ops.toList[i]? = some oi := by simpa using hoi
    simp only [aseq, hoi'] at ha
    have hdc' := DC_set hdc hir
    rcases hcase with hone | hfree
    · have hone : Region.ready .any ops l = [i] := by simpa using hone
      refine ⟨fun h0 => (by rw [hone] at h0; cases h0), fun j hj oj hoj => ?_⟩
      rw [hone] at hj
      have := List.mem_singleton.1 hj; subst this
      rw [hoi] at hoj; injection hoj with hoj; subst hoj
      exact astep_mono he ha fun st' hst => seq_any he r _ l' st' h hdc' hst hk
    · obtain ⟨hcl, hfr⟩ := freeA_spec hoi hfree
      obtain ⟨v, hv, hy⟩ := astep_det he hcl ha
      exact anyA_first he hoi (n + r.length) l st hdc hfr hir hy (seq_any he r _ l' _ h hdc' hv hk)

theorem mix_any {E0 : Env} (he : E = E0.exact) {K1 : ASt → Prop} {n i : Nat} : ∀ (p : List Nat) (l l' : Array Bool) (st : ASt), mixOk E ops i p l = some l' → DC ops l → amix E ops.toList i p st K1 → (∀ st', DC ops l' → K1 st' → anyA E ops n l' st' K) → anyA E ops (n + (p.length + 1)) l st K
  | [], l, l', st, h, hdc, ha, hk => seq_any he [i] l l' st h hdc ha hk
  | x :: p, l, l', st, h, hdc, ha, hk => by
    simp only [mixOk] at h
    split at h
    case isFalse => cases h
    rename_i hr
    split at h
    case h_2 => cases h
    rename_i a b h1 h2
    split at h
    case isFalse => cases h
    rename_i hab
    simp only [beq_iff_eq] at hab
    subst hab
    injection h with h; subst h
    obtain ⟨ha1, ha2⟩ := ha
    have hmem : ∀ k, k ∈ Region.ready .any ops l → k = i ∨ k = x := by
      intro k hk
      simp only [Bool.or_eq_true, beq_iff_eq] at hr
      rcases hr with hr | hr <;> rw [hr] at hk <;> simp at hk <;> omega
    have hne : Region.ready .any ops l ≠ [] := by
      intro h0
      rw [h0] at hr; simp at hr
    rw [show n + ((x :: p).length + 1) = (n + (p.length + 1)) + 1 from by simp; omega]
    refine ⟨fun h0 => absurd h0 hne, fun k hk' o ho => ?_⟩
    have ho' : ops.toList[k]? = some o := by simpa using ho
    have hd := DC_set hdc hk'
    rcases hmem k hk' with rfl | rfl
    · simp only [aseq, ho'] at ha1
      have ha1' : astep E ops.toList o st fun st => aseq E ops.toList (x :: p) st K1 := ha1
      refine astep_mono he ha1' fun st2 h3 => ?_
      have := seq_any he (n := n) (x :: p) _ a st2 h1 hd h3 hk
      simpa [Nat.add_assoc] using this
    · simp only [ho'] at ha2
      exact astep_mono he ha2 fun st2 h3 => mix_any he p _ a st2 h2 hd h3 hk

theorem plan_any {E0 : Env} (he : E = E0.exact) : ∀ (p : List Pl) (l : Array Bool) (st : ASt) (n : Nat), planOk E ops p l = true → DC ops l → aplan E ops.toList p st K → anyA E ops (n + planLen p) l st K
  | [], l, st, n, h, hdc, ha => anyA_done (by simpa [planOk] using h) ha _
  | .one i :: r, l, st, n, h, hdc, ha => by
    simp only [planOk] at h
    split at h
    case h_2 => cases h
    rename_i l' hl'
    exact seq_any he (n := n + planLen r) [i] l l' st hl' hdc ha fun st' hdc' hst => plan_any he r l' st' n h hdc' hst
  | .two i p j q :: r, l, st, n, h, hdc, ha => by
    simp only [planOk, Bool.and_eq_true, beq_iff_eq] at h
    obtain ⟨⟨hr, hlen⟩, h⟩ := h
    split at h
    case h_2 => cases h
    rename_i a b ha1 hb1
    simp only [Bool.and_eq_true, beq_iff_eq] at h
    obtain ⟨rfl, hp⟩ := h
    obtain ⟨st', h1, h2, h3⟩ := ha
    have fin : ∀ s, DC ops a → s = st' → anyA E ops (n + planLen r) a s K := by
      rintro s hd rfl
      exact plan_any he r a s n hp hd h3
    have one : ∀ (k : Nat) (s : List Nat), k ∈ Region.ready .any ops l → seqOk E ops s (l.setIfInBounds k true) = some a → s.length = p.length → aseq E ops.toList (k :: s) st (· = st') → ∀ o, ops[k]? = some o →
        astep E ops.toList o st fun st2 => anyA E ops (n + planLen r + p.length) (l.setIfInBounds k true) st2 K := by
      intro k s hk hs hsl hsq o ho
      have ho' : ops.toList[k]? = some o := by simpa using ho
      simp only [aseq, ho'] at hsq
      refine astep_mono he hsq fun st2 h2 => ?_
      rw [← hsl]
      exact seq_any he s _ a st2 hs (DC_set hdc hk) h2 fin
    show anyA E ops (n + (planLen r + (p.length + 1))) l st K
    rw [show n + (planLen r + (p.length + 1)) = (n + planLen r + p.length) + 1 from by omega]
    refine ⟨fun h0 => (by rw [hr] at h0; cases h0), fun k hk o ho => ?_⟩
    have hk' := hk
    rw [hr] at hk
    simp only [List.mem_cons, List.mem_nil_iff, or_false] at hk
    rcases hk with rfl | rfl
    · exact one _ p hk' ha1 rfl h1 o ho
    · exact one _ q hk' hb1 hlen.symm h2 o ho
  | .mix i p :: r, l, st, n, h, hdc, ha => by
    simp only [planOk] at h
    split at h
    case h_2 => cases h
    rename_i a ha1
    show anyA E ops (n + (planLen r + (p.length + 1))) l st K
    rw [← Nat.add_assoc]
    exact mix_any he (n := n + planLen r) p l a st ha1 hdc ha fun st' hd hst => plan_any he r a st' n h hd hst
end
end Go.Proofs.YtjchgncgkhofhaaGreat.AL
/- The A-logic: code. -/
set_option linter.unusedVariables false
set_option linter.unusedSimpArgs false
namespace Go.Proofs.YtjchgncgkhofhaaGreat.AL
open Go

/-! ### Less is told -/
/-- A value told as less: nothing, without the right to append, nil as an empty slice. -/
def avle (x y : AV) : Prop := y = .undef ∨ y = x ∨ y = dm x ∨ (x = .sc (.slice none 0 0) ∧ ∃ b es, y = .vec b es 0 [])
def oble : AObj → AObj → Prop
  | _, .dead => True
  | .cells v cs, .cells v' cs' => v' = v ∧ cs'.length = cs.length ∧ ∀ (i : Nat) (x y : AV), cs[i]? = some x → cs'[i]? = some y → avle x y
  | .map es, .map es' => es' = es
  | _, _ => False
structure wk (st st0 : ASt) : Prop where
  f : ∀ t, avle (st.f t) (st0.f t)
  b : ∀ p, oble (st.m.bx p) (st0.m.bx p)
  n : st0.m.gs.length = st.m.gs.length
  g : ∀ (i : Nat) (o o0 : AObj), st.m.gs[i]? = some o → st0.m.gs[i]? = some o0 → oble o o0
  p : ∀ t q, ((∃ off, st0.f t = .pp (.loc q) off) ∨ st0.f t = .mp (.loc q)) → alive (st0.m.bx q)

theorem avle_R {c : Wz} {x y : AV} {v : Value} (h : avle x y) (hR : R c x v) : R c y v := by
  rcases h with rfl | rfl | rfl | ⟨rfl, b, es, rfl⟩
  · simp [R]
  · exact hR
  · exact R_dm hR
  · simp only [R] at hR; subst hR; simp [R]
theorem avle_VOk {w : World} {Z : Nat → Nat → Prop} {ow : Nat → Option Pos} {p : Pos} {x y : AV} {v : Value} {c : Wz} (h : avle x y) (hv : x = .sc (.slice none 0 0) → v = .slice none 0 0) (hV : VOk w Z ow p x v) : VOk w Z ow p y v := by
  rcases h with rfl | rfl | rfl | ⟨rfl, b, es, rfl⟩
  · exact VOk_plain trivial
  · exact hV
  · exact VOk_plain (notFl_dm _)
  · have := hv rfl; subst this
    intro e n cs a k _ h; cases h
theorem oble_kind {o o' : AObj} (h : oble o o') (ha : alive o') : sameKind o o' := by
  cases o <;> cases o' <;> simp_all [oble, alive, sameKind]
theorem oble_ORel {c : Wz} {b : Nat} {o o' : AObj} (h : oble o o') (hO : ORel c b o) : ORel c b o' := by
  cases o' with
  | dead => trivial
  | cells v' cs' => cases o with
    | cells v cs =>
      obtain ⟨h1, h2, h3⟩ := h
      obtain ⟨vs, T, k1, k2, k3⟩ := hO
      refine ⟨vs, T, k1, by omega, RL_ext _ _ (by rw [h2]; exact RL_length _ _ k3) fun i y v hy hv => ?_⟩
      rw [h2] at hv
      have hlt : i < cs.length := by rw [← h2]; exact (List.getElem?_eq_some_iff.1 hy).1
      obtain ⟨u, hu, hR⟩ := RL_get _ _ k3 i cs[i] (List.getElem?_eq_getElem hlt)
      rw [hv] at hu; injection hu with hu; subst hu
      exact avle_R (h3 i _ y (List.getElem?_eq_getElem hlt) hy) hR
    | _ => exact h.elim
  | map es' => cases o with
    | map es => simp only [oble] at h; subst h; exact hO
    | _ => exact h.elim

theorem wk_look {st st0 : ASt} (h : wk st st0) (l : Loc) : oble (look st.m l) (look st0.m l) := by
  cases l with
  | loc p => exact h.b p
  | obj i =>
    simp only [look, List.getD_eq_getElem?_getD]
    cases h0 : st0.m.gs[i]? with
    | none => simp only [Option.getD_none]; cases (st.m.gs[i]?).getD .dead <;> trivial
    | some o0 =>
      have hlt : i < st.m.gs.length := by rw [← h.n]; exact (List.getElem?_eq_some_iff.1 h0).1
      rw [List.getElem?_eq_getElem hlt]
      exact h.g i _ o0 (List.getElem?_eq_getElem hlt) h0

theorem HRel.weaken {st st0 : ASt} (hw : wk st st0) {V : Nat → Value} {w : World} {L : Nat → Nat} {G : Gh} {ow : Nat → Option Pos} (h : HRel st.m st.f V w L G ow) : HRel st0.m st0.f V w L G ow := by
  refine { sl := ?_, ob := ?_, so := ?_, co := ?_, zb := h.zb, fb := h.fb, hd := fun i v b k => by rw [hw.n]; exact h.hd i v b k, hf := h.hf }
  · intro t
    have h1 := h.sl t
    rcases hw.f t with e | e | e | ⟨e1, b, es, e2⟩
    · rw [e]; simp [RS, R]
    · have hp := hw.p t
      rw [e] at hp ⊢
      cases hft : st.f t with
      | pp l off => cases l with
        | loc q =>
          rw [hft] at h1 hp
          obtain ⟨⟨ver, cs, hb⟩, hv⟩ := h1
          have ha := hp q (.inl ⟨off, rfl⟩)
          have hk := oble_kind (hw.b q) ha
          rw [hb] at hk
          cases hb0 : st0.m.bx q with
          | cells v' cs' => exact ⟨⟨v', cs', hb0⟩, hv⟩
          | _ => rw [hb0] at hk; exact hk.elim
        | obj i => rw [hft] at h1; exact h1
      | mp l => cases l with
        | loc q =>
          rw [hft] at h1 hp
          obtain ⟨⟨es, hb⟩, hv⟩ := h1
          have ha := hp q (.inr rfl)
          have hk := oble_kind (hw.b q) ha
          rw [hb] at hk
          cases hb0 : st0.m.bx q with
          | map es' => exact ⟨⟨es', hb0⟩, hv⟩
          | _ => rw [hb0] at hk; exact hk.elim
        | obj i => rw [hft] at h1; exact h1
      | ap l _ _ _ => cases l with
        | loc q => rw [hft] at h1; exact h1.elim
        | obj i => rw [hft] at h1; exact h1
      | _ => rw [hft] at h1; exact h1
    · -- without the right to append
      cases hft : st.f t with
      | vec b e2 n cs =>
        rw [hft] at h1 e
        rw [e]; exact RS_dm h1
      | pp l off =>
        have hp := hw.p t
        rw [hft] at h1 e
        rw [e] at hp ⊢
        cases l with
        | loc q =>
          obtain ⟨⟨ver, cs, hb⟩, hv⟩ := h1
          have ha := hp q (.inl ⟨off, rfl⟩)
          have hk := oble_kind (hw.b q) ha
          rw [hb] at hk
          cases hb0 : st0.m.bx q with
          | cells v' cs' => exact ⟨⟨v', cs', hb0⟩, hv⟩
          | _ => rw [hb0] at hk; exact hk.elim
        | obj i => exact h1
      | mp l =>
        have hp := hw.p t
        rw [hft] at h1 e
        rw [e] at hp ⊢
        cases l with
        | loc q =>
          obtain ⟨⟨es, hb⟩, hv⟩ := h1
          have ha := hp q (.inr rfl)
          have hk := oble_kind (hw.b q) ha
          rw [hb] at hk
          cases hb0 : st0.m.bx q with
          | map es' => exact ⟨⟨es', hb0⟩, hv⟩
          | _ => rw [hb0] at hk; exact hk.elim
        | obj i => exact h1
      | ap l _ _ _ =>
        rw [hft] at h1 e
        rw [e]
        cases l with
        | loc q => exact h1.elim
        | obj i => exact h1
      | _ => rw [hft] at h1 e; rw [e]; exact h1
    · rw [e1] at h1
      rw [e2]
      exact RS_of_R (avle_R (.inr (.inr (.inr ⟨rfl, b, es, rfl⟩))) h1)
  · intro l hl
    have hob := wk_look hw l
    have hk := oble_kind hob hl
    obtain ⟨b, h1, h2, h3⟩ := h.ob l (alive_kind' hk)
    exact ⟨b, (Blk_kind hk).1 h1, oble_ORel hob h2, h3⟩
  · intro t
    exact avle_VOk (c := G.wz w) (hw.f t) (fun e => RS_sc (by have := h.sl t; rwa [e] at this)) (h.so t)
  · intro l ver cs b vs T j y v h1 h2 h3 h4 h5
    have hob := wk_look hw l
    have hk := oble_kind hob (by rw [h1]; trivial)
    rw [h1] at hob
    cases hl : look st.m l with
    | cells v' cs' =>
      rw [hl] at hob
      obtain ⟨q1, q2, q3⟩ := hob
      subst q1
      have h2' : Blk L G.H l (look st.m l) b := (Blk_kind hk).2 h2
      have hlt : j < cs'.length := by rw [← q2]; exact (List.getElem?_eq_some_iff.1 h4).1
      have hx := List.getElem?_eq_getElem hlt
      refine avle_VOk (c := G.wz w) (q3 j _ y hx h4) (fun e => ?_) (h.co l ver cs' b vs T j _ v hl h2' h3 hx h5)
      obtain ⟨b', k1, k2, _⟩ := h.ob l (by rw [hl]; trivial)
      have := Blk_fun h h2' k1; subst this
      rw [hl] at k2
      obtain ⟨us, T', u1, u2, u3⟩ := k2
      have u1' : w.heap[b]? = some (.cells us T' (0, 0)) := u1
      rw [h3] at u1'; injection u1' with u1'; injection u1' with u1' _; subst u1'
      obtain ⟨u, hu, hR⟩ := RL_get _ _ u3 j _ hx
      rw [List.getElem?_take, if_pos hlt] at hu
      have hu' : vs[j]? = some u := by simpa using hu
      rw [h5] at hu'; injection hu' with hu'; subst hu'
      rw [e] at hR; simpa [R] using hR
    | _ => rw [hl] at hob; exact hob.elim

inductive AX where
  | normal | exit (id : Nat) | ret

/-- What a body asks of a state, so that behind it this holds. -/
def acode (E : Env) (pl : Nat → List Pl) : Code → (AX → ASt → Prop) → ASt → Prop
  | .skip, Q, st => Q .normal st
  | .region _ ops false, Q, st => aops E ops.toList ops.toList st (Q .normal)
  | .region id ops true, Q, st => (planOk E.exact ops (pl id) (Array.replicate ops.size false) && decide (planLen (pl id) ≤ ops.size)) = true ∧ aplan E.exact ops.toList (pl id) st (Q .normal)
  | .seq a b, Q, st => acode E pl a (fun e s => match e with | .normal => acode E pl b Q s | e => Q e s) st
  | .cond c a b, Q, st => match evo st.f c with
    | .sc (.bool t) => (match t with | true => acode E pl a Q st | false => acode E pl b Q st)
    | _ => False
  | .block id a, Q, st => acode E pl a (fun e s => match e with | .exit i => if i = id then Q .normal s else Q (.exit i) s | e => Q e s) st
  | .exit id, Q, st => Q (.exit id) st
  | .ret, Q, st => Q .ret st
  | .loop a, Q, st => ∃ (α : Type) (S : α → ASt) (μ : α → Nat) (a0 : α), wk st (S a0) ∧ ∀ x, acode E pl a (fun e s' => match e with | .normal => ∃ y, wk s' (S y) ∧ μ y < μ x | e => Q e s') (S x)
  | _, _, _ => False

/-- Are all results put into slots below N? -/
def dstOk (N : Nat) : Code → Bool
  | .region _ ops _ => ops.toList.all fun o => match o.dst with | some d => decide (d < N) | none => true
  | .seq a b | .cond _ a b => dstOk N a && dstOk N b
  | .block _ a | .loop a => dstOk N a
  | _ => true

def FinC (a : Act) (w : World) (G : Gh) (Q : AX → ASt → Prop) (e : AX) (a' : Act) (w' : World) : Prop := Fin a w G (Q e) a' w'
/-- What the machine's end of a body says. -/
def postC (a : Act) (w : World) (G : Gh) (Q : AX → ASt → Prop) : Exit → Act → World → Prop
  | .normal, a', w' => FinC a w G Q .normal a' w'
  | .exit id, a', w' => FinC a w G Q (.exit id) a' w'
  | .ret, a', w' => FinC a w G Q .ret a' w'
  | _, _, _ => False

theorem least_ex (p : Nat → Prop) (h : ∃ n, p n) : ∃ n, p n ∧ ∀ m, p m → n ≤ m := by
  obtain ⟨n, hn⟩ := h
  induction n using Nat.strongRecOn with
  | _ n ih =>
    rcases Classical.em (∃ m, m < n ∧ p m) with ⟨m, h1, h2⟩ | hno
    · exact ih m h1 h2
    · exact ⟨n, hn, fun m hm => Nat.le_of_not_lt fun hlt => hno ⟨m, hlt, hm⟩⟩
open Classical in
noncomputable def least (p : Nat → Prop) : Nat := if h : ∃ n, p n then (least_ex p h).choose else 0
theorem least_spec {p : Nat → Prop} (h : ∃ n, p n) : p (least p) := by
  unfold least; rw [dif_pos h]; exact (least_ex p h).choose_spec.1
theorem least_le {p : Nat → Prop} {m : Nat} (h : p m) : least p ≤ m := by
  unfold least; rw [dif_pos ⟨m, h⟩]; exact (least_ex p ⟨m, h⟩).choose_spec.2 m h

section
variable {P : Program} {E : Env} {pl : Nat → List Pl}

theorem any_wp (hE : EnvOk P E) {ops : Array Oper} {Q : Exit → Act → World → Prop} {K : ASt → Prop} : ∀ (n : Nat) (l : Array Bool) (st : ASt) (a : Act) (w : World) (L : Nat → Nat) (G : Gh) (ow : Nat → Option Pos), anyA E ops n l st K → HRel st.m st.f (vals a) w L G ow →
    (∀ o ∈ ops.toList, ∀ x, o.dst = some x → x < a.tmps.size) → (∀ a' w', Fin a w G K a' w' → Q .normal a' w') → wpAny P .any ops Q n l a w
  | 0, l, st, a, w, L, G, ow, hA, h, _, hQ => ⟨hA.1, hQ a w ⟨st, L, G, ow, hA.2, h, .refl _ _, rfl, rfl⟩⟩
  | n + 1, l, st, a, w, L, G, ow, hA, h, hd, hQ => by
    refine ⟨fun h0 => hQ a w ⟨st, L, G, ow, hA.1 h0, h, .refl _ _, rfl, rfl⟩, fun i hi => ?_⟩
    obtain ⟨_, o, ho, _⟩ := mem_ready.1 hi
    have hom : o ∈ ops.toList := by
      have : ops.toList[i]? = some o := by simpa using ho
      exact List.mem_of_getElem? this
    have h1 := astep_ok (Q := Q) (P := P) hE (hA.2 i hi o ho) h (hd o hom)
    have h2 := rstep_mono (next' := wpAny P .any ops Q n (l.setIfInBounds i true)) h1 (fun a1 w1 hf => by
      obtain ⟨st1, L1, G1, ow1, k1, k2, k3, k4, k5⟩ := hf
      exact any_wp hE n _ st1 a1 w1 L1 G1 ow1 k1 k2 (fun o' ho' x hx => by rw [k5]; exact hd o' ho' x hx) (fun a' w' hf => hQ a' w' (hf.trans k3 k4 k5)))
    unfold wpOp
    simp only [ho]
    unfold rstep at h2
    split
    · rename_i hw; rw [if_pos hw] at h2; exact .inl h2
    · rename_i hw; rw [if_neg hw] at h2; exact h2

theorem dst_mem {N : Nat} {id : Nat} {ops : Array Oper} {d : Bool} (h : dstOk N (.region id ops d) = true) : ∀ o ∈ ops.toList, ∀ x, o.dst = some x → x < N := by
  intro o ho x hx
  simp only [dstOk, List.all_eq_true] at h
  have := h o ho
  rw [hx] at this
  simpa using this

theorem code_ok (hm : P.follows .mixedOrders = true) (hE : EnvOk P E) : ∀ (c : Code) (Q : AX → ASt → Prop) (st : ASt) (a : Act) (w : World) (L : Nat → Nat) (G : Gh) (ow : Nat → Option Pos), acode E pl c Q st → HRel st.m st.f (vals a) w L G ow →
    dstOk a.tmps.size c = true → c.wp P (postC a w G Q) a w := by
  intro c
  induction c with
  | skip =>
    intro Q st a w L G ow hA h _
    exact wp_skip ⟨st, L, G, ow, hA, h, .refl _ _, rfl, rfl⟩
  | region id ops draw =>
    intro Q st a w L G ow hA h hd
    cases draw with
    | false => exact wp_region_list (aops_ok hE _ st a w L G ow hA h (dst_mem hd) fun a' w' hf => hf)
    | true =>
      obtain ⟨hp, hA⟩ := hA
      simp only [Bool.and_eq_true, decide_eq_true_eq] at hp
      have hany := plan_any (E := E.exact) rfl (pl id) (Array.replicate ops.size false) st (ops.size - planLen (pl id)) hp.1 (by
        intro j o ho hj hjs
        simp only [Array.size_replicate] at hjs
        simp [hjs] at hj) hA
      rw [Nat.sub_add_cancel hp.2] at hany
      refine wp_region_any hm ?_
      have hg := h.grow (Grow.drew w)
      refine any_wp (EnvOk.exact hE) ops.size _ st a w.drew L G ow hany hg (dst_mem hd) fun a' w' hf => ?_
      exact Fin.of_grow (Grow.drew w) h.zb (fun b k => (h.fb b k).1) hf
  | seq x y ihx ihy =>
    intro Q st a w L G ow hA h hd
    simp only [dstOk, Bool.and_eq_true] at hd
    refine wp_seq (wp_mono (ihx _ st a w L G ow hA h hd.1) fun e a1 w1 hq => ?_)
    cases e with
    | normal =>
      obtain ⟨st1, L1, G1, ow1, k1, k2, k3, k4, k5⟩ := hq
      refine wp_mono (ihy Q st1 a1 w1 L1 G1 ow1 k1 k2 (by rw [k5]; exact hd.2)) fun e2 a2 w2 hq2 => ?_
      cases e2 with
      | normal => exact hq2.trans k3 k4 k5
      | exit i => exact hq2.trans k3 k4 k5
      | ret => exact hq2.trans k3 k4 k5
      | _ => exact hq2
    | _ => exact hq
  | cond c x y ihx ihy =>
    intro Q st a w L G ow hA h hd
    simp only [dstOk, Bool.and_eq_true] at hd
    simp only [acode] at hA
    have hrs := ev_rs h c
    split at hA
    case h_2 => exact hA.elim
    rename_i t he
    rw [he] at hrs
    have hv := RS_sc hrs
    cases t with
    | true => exact wp_cond_true hv (ihx Q st a w L G ow hA h hd.1)
    | false => exact wp_cond_false hv (ihy Q st a w L G ow hA h hd.2)
  | block id x ih =>
    intro Q st a w L G ow hA h hd
    simp only [dstOk] at hd
    refine wp_block (wp_mono (ih _ st a w L G ow hA h hd) fun e a1 w1 hq => ?_)
    cases e with
    | normal => exact hq
    | exit i =>
      obtain ⟨st1, L1, G1, ow1, k1, k2⟩ := hq
      simp only at k1
      unfold Exit.inBlock
      split at k1
      · rename_i hi; subst hi
        simp only [if_true]
        exact ⟨st1, L1, G1, ow1, k1, k2⟩
      · rename_i hi
        simp only [if_neg hi]
        exact ⟨st1, L1, G1, ow1, k1, k2⟩
    | ret => exact hq
    | _ => exact hq
  | loop x ih =>
    intro Q st a w L G ow hA h hd
    simp only [dstOk] at hd
    obtain ⟨α, S, μ, a0, hI, hround⟩ := hA
    -- of the states that the real one stands for, the one with the least measure
    let Rel : Act → World → Nat → Prop := fun a1 w1 n => ∃ x L1 G1 ow1, μ x = n ∧ HRel (S x).m (S x).f (vals a1) w1 L1 G1 ow1 ∧ Ext w G w1 G1 ∧ a1.defers = a.defers ∧ a1.tmps.size = a.tmps.size
    refine wp_loop (fun a1 w1 => ∃ n, Rel a1 w1 n) (fun a1 w1 => least (Rel a1 w1)) ⟨μ a0, a0, L, G, ow, rfl, h.weaken hI, .refl _ _, rfl, rfl⟩ fun a1 w1 hex => ?_
    obtain ⟨x1, L1, G1, ow1, k1, k2, k3, k4, k5⟩ := least_spec hex
    refine wp_mono (ih _ (S x1) a1 w1 L1 G1 ow1 (hround x1) k2 (by rw [k5]; exact hd)) fun e a2 w2 hq => ?_
    cases e with
    | normal =>
      obtain ⟨st2, L2, G2, ow2, ⟨y, q0, q1⟩, q2, q3, q4, q5⟩ := hq
      have hr : Rel a2 w2 (μ y) := ⟨y, L2, G2, ow2, rfl, q2.weaken q0, k3.trans q3, q4.trans k4, q5.trans k5⟩
      refine ⟨⟨_, hr⟩, ?_⟩
      have := least_le hr
      omega
    | exit i => exact hq.trans k3 k4 k5
    | ret => exact hq.trans k3 k4 k5
    | _ => exact hq
  | exit id =>
    intro Q st a w L G ow hA h _
    exact wp_exit ⟨st, L, G, ow, hA, h, .refl _ _, rfl, rfl⟩
  | ret =>
    intro Q st a w L G ow hA h _
    exact wp_ret ⟨st, L, G, ow, hA, h, .refl _ _, rfl, rfl⟩
  | _ => intro Q st a w L G ow hA; exact hA.elim
end
end Go.Proofs.YtjchgncgkhofhaaGreat.AL
/- The A-logic: functions. -/
set_option linter.unusedVariables false
set_option linter.unusedSimpArgs false
namespace Go.Proofs.YtjchgncgkhofhaaGreat.AL
open Go

/-- The results of a body, one by one; no right to append goes along. -/
def aresL (E : Env) : List ResultVar → ASt → (List AV → Prop) → Prop
  | [], _, K => K []
  | .tmp t :: r, st, K => frc (dm (st.f t)) fun v => if okv v = false then False else aresL E r st fun vs => K (v :: vs)
  | .cell p t :: r, st, K => match st.f p with
    | .pp (.loc q) off => match st.m.bx q with
      | .cells _ cs => ldc E t cs off fun v => if okv v = false then False else aresL E r st fun vs => K (dm v :: vs)
      | _ => False
    | .pp (.obj id) off => ∃ cs, st.m.gs[id]? = some (.cells 0 cs) ∧ ldc E t cs off fun v => if okv v = false then False else aresL E r st fun vs => K (dm v :: vs)
    | _ => False
/-- The result of a body: one that is handed on keeps its right to append. -/
def ares (E : Env) (rs : List ResultVar) (st : ASt) (K : AV → Prop) : Prop :=
  match rs with
  | [.tmp t] => frc (st.f t) fun v => if okv v = false then False else K v
  | rs => aresL E rs st fun vs => match vs with
    | [v] => K v
    | vs => K (.tup vs)

def afn (E : Env) (pl : Nat → List Pl) (fn : Func) (args : List AV) (gs : List AObj) (K : AV → List AObj → Prop) : Prop :=
  match fn.body with
  | some c => acode E pl c (fun e st => match e with | .exit _ => False | _ => ares E fn.results.toList st fun v => K v st.m.gs) ⟨argF args, deadM gs⟩
  | none => False

section
variable {P : Program} {E : Env}

def res1 (tmps : Array Value) : ResultVar → Sem Value
  | .tmp t => pure (tmps.getD t undef)
  | .cell p t => do loadVar t (← asAddr (tmps.getD p undef))
theorem results_eq (fn : Func) (tmps : Array Value) : results fn tmps = (do let vs ← fn.results.mapM (res1 tmps); pure (if h : vs.size = 1 then vs[0] else .tuple vs)) := by
  unfold results
  have : (fun x : ResultVar => (match x with | .tmp t => pure (tmps.getD t undef) | .cell a t => do loadVar t (← asAddr (tmps.getD a undef)) : Sem Value)) = res1 tmps := by
    funext x; cases x <;> rfl
  rw [← this]
  rfl
theorem okv_nf {x : AV} (h : ¬ okv x = false) : okv x = true := by cases hq : okv x <;> simp_all

theorem aresL_ok (hE : EOk P E) {m : Mem} {f : Nat → AV} {a : Act} {w : World} {L : Nat → Nat} {G : Gh} {ow : Nat → Option Pos} (h : HRel m f (vals a) w L G ow) : ∀ (rs : List ResultVar) (K : List AV → Prop), aresL E rs ⟨f, m⟩ K →
    ∃ vs us, K vs ∧ RL (G.wz w) vs us ∧ (∀ v ∈ vs, notFl v) ∧ (rs.mapM (res1 a.tmps)).run P w = .ok us w
  | [], K, hk => ⟨[], [], hk, RL_nil, by simp, by simp⟩
  | .tmp t :: r, K, hk => by
    simp only [aresL, frc_eq] at hk
    split at hk
    · exact hk.elim
    rename_i hok
    obtain ⟨vs, us, h1, h2, h3, h4⟩ := aresL_ok hE h r _ hk
    refine ⟨_, a.tmps.getD t undef :: us, h1, RL_cons.2 ⟨R_of_RS (RS_dm (h.sl t)) (okv_nf hok), h2⟩, ?_, ?_⟩
    · intro v hv
      rcases List.mem_cons.1 hv with rfl | hv
      · exact notFl_dm _
      · exact h3 v hv
    · simp only [List.mapM_cons, Sem.run_bind, res1, Sem.run_pure, Result.andThen_ok]
      rw [h4]; rfl
  | .cell p t :: r, K, hk => by
    have hrs := h.sl p
    have key : ∀ (l : Loc) (off ver : Nat) (cs : List AV), f p = .pp l off → look m l = .cells ver cs → (∀ id, l = .obj id → ver = 0) → (ldc E t cs off fun v => if okv v = false then False else aresL E r ⟨f, m⟩ fun vs => K (dm v :: vs)) →
        ∃ vs us, K vs ∧ RL (G.wz w) vs us ∧ (∀ v ∈ vs, notFl v) ∧ ((ResultVar.cell p t :: r).mapM (res1 a.tmps)).run P w = .ok us w := by
      intro l off ver cs hfp hl hv hld
      obtain ⟨b, vs, T, hb, hw, hsz, hr, hcell⟩ := obj_cells h hl
      rw [hl] at hb
      rw [hfp] at hrs
      have he := addr_of h hrs hb hv
      obtain ⟨x, v, hk', hrun, hRv, _⟩ := load_run (P := P) hE hld hr hcell
      rw [Nat.zero_add] at hrun
      split at hk'
      · exact hk'.elim
      obtain ⟨vs', us, h1, h2, h3, h4⟩ := aresL_ok hE h r _ hk'
      refine ⟨_, v :: us, h1, RL_cons.2 ⟨R_dm hRv, h2⟩, ?_, ?_⟩
      · intro y hy
        rcases List.mem_cons.1 hy with rfl | hy
        · exact notFl_dm _
        · exact h3 y hy
      · have he' : a.tmps.getD p undef = .pointer (some ⟨b, off, none⟩) := he
        have ha : (asAddr (a.tmps.getD p undef)).run P w = .ok ⟨b, off, none⟩ w := by rw [he']; simp [asAddr]
        simp only [List.mapM_cons, Sem.run_bind, res1, ha, Sem.run_pure, Result.andThen_ok, hrun]
        rw [h4]; rfl
    simp only [aresL] at hk
    split at hk
    · rename_i q off hfp
      split at hk
      case h_2 => exact hk.elim
      rename_i ver cs hbx
      exact key (.loc q) off ver cs hfp hbx (by simp) hk
    · rename_i id off hfp
      obtain ⟨cs, hgs, hk⟩ := hk
      exact key (.obj id) off 0 cs hfp (look_obj hgs) (fun _ _ => rfl) hk
    · exact hk.elim

/-- Behind a body: the boxes are gone, one slot is left. -/
theorem HRel.ret {m : Mem} {S : Nat → AV} {V : Nat → Value} {w : World} {L : Nat → Nat} {G : Gh} {ow : Nat → Option Pos} (h : HRel m S V w L G ow) {x : AV} {v : Value} (hR : R (G.wz w) x v)
    (hfl : notFl x ∨ ∃ t, S t = x ∧ V t = v) : ∃ ow', HRel (deadM m.gs) (resF x) (resV v) w L G ow' := by
  have base : ∀ ow', (∀ b l, ow b = some (.blk (.obj l)) → ow' b = some (.blk (.obj l))) → (∀ b l j, ow b = some (.cell (.obj l) j) → ow' b = some (.cell (.obj l) j)) → (∀ b, ow b = none → ow' b = none) →
      VOk w G.Z ow' (.slot 0) x v → HRel (deadM m.gs) (resF x) (resV v) w L G ow' := by
    intro ow' h1 h2 h3 h4
    refine { sl := ?_, ob := ?_, so := ?_, co := ?_, zb := h.zb, fb := fun b hb => ⟨(h.fb b hb).1, h3 b (h.fb b hb).2⟩, hd := h.hd, hf := h.hf }
    · intro t
      by_cases ht : t = 0
      · subst ht; simp only [resF, resV, upd_at]; exact RS_of_R hR
      · simp only [resF, resV, upd_ne _ _ ht]; simp [RS, R]
    · intro l hl
      cases l with
      | loc d => exact hl.elim
      | obj id =>
        obtain ⟨b, k1, k2, k3, k4, k5⟩ := h.ob (.obj id) hl
        exact ⟨b, k1, k2, k3, h1 _ _ k4, k5⟩
    · intro t
      by_cases ht : t = 0
      · subst ht; simp only [resF, resV, upd_at]; exact h4
      · simp only [resF, resV, upd_ne _ _ ht]; exact VOk_plain trivial
    · intro l ver cs b vs T j y u k1 k2 k3 k4 k5
      cases l with
      | loc d => cases k1
      | obj id =>
        intro e n c a k hx hv
        obtain ⟨q1, q2⟩ := h.co (.obj id) ver cs b vs T j y u k1 k2 k3 k4 k5 e n c a k hx hv
        exact ⟨h2 _ _ _ q1, q2⟩
  rcases hfl with hn | ⟨t, rfl, rfl⟩
  · exact ⟨ow, base ow (fun _ _ k => k) (fun _ _ _ k => k) (fun _ k => k) (VOk_plain hn)⟩
  · by_cases hn : notFl (S t)
    · exact ⟨ow, base ow (fun _ _ k => k) (fun _ _ _ k => k) (fun _ k => k) (VOk_plain hn)⟩
    · cases hst : S t with
      | vec bb e n cs => cases bb with
        | false => rw [hst] at hn; exact absurd trivial hn
        | true =>
          rw [hst] at hR
          rcases R_vec_form hR with ⟨ad, k, hval⟩ | ⟨_, _, A, hval, hAo⟩
          rotate_left
          · rw [hAo rfl] at hval
            rw [← hst]
            exact ⟨ow, base ow (fun _ _ k => k) (fun _ _ _ k => k) (fun _ k => k) (fun e n c a k _ hv => by rw [hval] at hv; cases hv)⟩
          obtain ⟨q1, q2⟩ := h.so t e n cs ad k hst hval
          rw [← hst]
          refine ⟨upd ow ad.block (some (.slot 0)), base _ ?_ ?_ ?_ ?_⟩
          · intro b l hb
            have : b ≠ ad.block := by intro e; subst e; rw [q1] at hb; cases hb
            rw [upd_ne _ _ this]; exact hb
          · intro b l j hb
            have : b ≠ ad.block := by intro e; subst e; rw [q1] at hb; cases hb
            rw [upd_ne _ _ this]; exact hb
          · intro b hb
            have : b ≠ ad.block := by intro e; subst e; rw [q1] at hb; cases hb
            rw [upd_ne _ _ this]; exact hb
          · intro e' n' cs' a' k' hx hv
            rw [hst] at hx
            injection hx with _ e1 e2 e3
            rw [hval] at hv
            injection hv with e4 e5 e6
            injection e4 with e4
            subst e1; subst e2; subst e3; subst e4; subst e6
            exact ⟨upd_at _ _ _, q2⟩
      | _ => rw [hst] at hn; exact absurd trivial hn

/-- A body that does it in abstract words does it. -/
theorem fn_ok (hm : P.follows .mixedOrders = true) (hE : EnvOk P E) {pl : Nat → List Pl} {g : FuncId} {fn : Func} {c : Code} (hf : P.funcs[g]? = some fn) (hb : fn.body = some c) (hn : fn.name ≠ "runtime.NumGoroutine") {args : List AV} {gs : List AObj}
    (hd : dstOk (max args.length fn.ntmps) c = true) {K : AV → List AObj → Prop} (hA : afn E pl fn args gs K) : PlainFn P g ∧ CallOk P g args gs K := by
  refine ⟨⟨fn, hf, by rw [hb]; rfl, hn⟩, fun w G ow L vs hl hr => ?_⟩
  unfold afn at hA
  rw [hb] at hA
  simp only at hA
  refine calls_of_wp hf hb ?_
  have hsz : (vs.toArray ++ Array.replicate (fn.ntmps - vs.toArray.size) undef : Array Value).size = max args.length fn.ntmps := by
    simp [hl]; omega
  have hvals : vals { tmps := vs.toArray ++ Array.replicate (fn.ntmps - vs.toArray.size) undef, defers := [] } = argV vs := by
    funext t
    unfold vals argV
    simp only [Array.getD_eq_getD_getElem?, List.getD_eq_getElem?_getD, Array.getElem?_append, List.getElem?_toArray, List.size_toArray, Array.getElem?_replicate]
    by_cases ht : t < vs.length
    · rw [if_pos ht]
    · rw [if_neg ht, List.getElem?_eq_none (by omega)]
      split <;> rfl
  refine wp_mono (code_ok hm hE c _ ⟨argF args, deadM gs⟩ _ w L G ow hA (by rw [hvals]; exact hr) (by rw [hsz]; exact hd)) fun e a' w' hq => ?_
  have fin : ∀ st L' G' ow', ares E fn.results.toList st (fun v => K v st.m.gs) → HRel st.m st.f (vals a') w' L' G' ow' → Ext w G w' G' →
      ∃ v, (results fn a'.tmps).run P w' = .ok v w' ∧ ∃ av gs' G' ow' L', K av gs' ∧ HRel (deadM gs') (resF av) (resV v) w' L' G' ow' ∧ Ext w G w' G' := by
    intro st L' G' ow' har hr' hx
    obtain ⟨f, m⟩ := st
    have hres : ∀ us, (fn.results.toList.mapM (res1 a'.tmps)).run P w' = .ok us w' → (results fn a'.tmps).run P w' = .ok (match us with | [v] => v | us => .tuple us.toArray) w' := by
      intro us hus
      have hmap : (fn.results.mapM (res1 a'.tmps)).run P w' = .ok us.toArray w' := by
        rw [Array.mapM_eq_mapM_toList]
        rw [Sem.run_map, hus]; rfl
      rw [results_eq, Sem.run_bind, hmap, Result.andThen_ok, Sem.run_pure]
      match us with
      | [] => rfl
      | [u] => rfl
      | _ :: _ :: _ => rw [dif_neg (by simp)]
    unfold ares at har
    split at har
    · rename_i t hrs
      rw [frc_eq] at har
      split at har
      · exact har.elim
      rename_i hok
      have hR := R_of_RS (hr'.sl t) (okv_nf hok)
      obtain ⟨ow2, h2⟩ := hr'.ret hR (.inr ⟨t, rfl, rfl⟩)
      refine ⟨vals a' t, ?_, f t, m.gs, G', ow2, L', har, h2, hx⟩
      have := hres [vals a' t] (by rw [hrs]; simp only [List.mapM_cons, List.mapM_nil, Sem.run_bind, res1, Sem.run_pure, Result.andThen_ok]; rfl)
      exact this
    · obtain ⟨vs', us, k1, k2, k3, k4⟩ := aresL_ok (P := P) hE.1 hr' _ _ har
      have hlen := RL_length _ _ k2
      split at k1
      · rename_i v
        obtain ⟨u, r, rfl, hRu, hr0⟩ := k2
        simp only [RL] at hr0; subst hr0
        obtain ⟨ow2, h2⟩ := hr'.ret hRu (.inl (k3 v (by simp)))
        exact ⟨u, hres _ k4, v, m.gs, G', ow2, L', k1, h2, hx⟩
      · rename_i hne
        have hR : R (G'.wz w') (.tup vs') (.tuple us.toArray) := by simp only [R]; exact ⟨us, rfl, k2⟩
        obtain ⟨ow2, h2⟩ := hr'.ret hR (.inl trivial)
        refine ⟨.tuple us.toArray, ?_, .tup vs', m.gs, G', ow2, L', k1, h2, hx⟩
        have := hres us k4
        rcases us with _ | ⟨u, _ | ⟨u2, r⟩⟩
        · exact this
        · have h1 : vs'.length = 1 := by simpa using hlen.symm
          obtain ⟨x, hx⟩ := List.length_eq_one_iff.1 h1
          exact absurd hx (hne x)
        · exact this
  have post : ∀ ax, FinC { tmps := vs.toArray ++ Array.replicate (fn.ntmps - vs.toArray.size) undef, defers := [] } w G (fun e st => match e with | AX.exit _ => False | _ => ares E fn.results.toList st fun v => K v st.m.gs) ax a' w' → (∀ id, ax ≠ .exit id) →
      a'.defers = [] ∧ ∃ v, (results fn a'.tmps).run P w' = .ok v w' ∧ ∃ v2 av gs' G' ow' L', Ending.returned v = .returned v2 ∧ K av gs' ∧ HRel (deadM gs') (resF av) (resV v2) w' L' G' ow' ∧ Ext w G w' G' := by
    rintro ax ⟨st, L', G', ow', k1, k2, k3, k4, k5⟩ hne
    refine ⟨k4, ?_⟩
    have k1' : ares E fn.results.toList st (fun v => K v st.m.gs) := by
      cases ax with
      | exit id => exact absurd rfl (hne id)
      | normal => exact k1
      | ret => exact k1
    obtain ⟨v, h1, av, gs', G2, ow2, L2, h2, h3, h4⟩ := fin st L' G' ow' k1' k2 k3
    exact ⟨v, h1, v, av, gs', G2, ow2, L2, rfl, h2, h3, h4⟩
  cases e with
  | normal => exact post .normal hq (by simp)
  | ret => exact post .ret hq (by simp)
  | exit id =>
    obtain ⟨st, _, _, _, k1, _⟩ := hq
    exact k1.elim
  | _ => exact hq.elim
end
end Go.Proofs.YtjchgncgkhofhaaGreat.AL
/- The A-logic: calls that touch no shared object. -/
set_option linter.unusedVariables false
set_option linter.unusedSimpArgs false
namespace Go.Proofs.YtjchgncgkhofhaaGreat.AL
open Go

-- Does it lead to no shared object?
mutual
def nr : AV → Bool
  | .undef | .sc _ => true
  | .vec _ _ _ cs | .agg cs | .tup cs | .cp cs _ => nrL cs
  | .fn _ a b => nrL a && nrL b
  | .ifc _ x => nr x
  | .pp _ _ | .mp _ | .ap _ _ _ _ => false
def nrL : List AV → Bool
  | [] => true
  | x :: xs => nr x && nrL xs
end
theorem nrL_mem : ∀ (l : List AV), nrL l = true → ∀ x ∈ l, nr x = true
  | [], _, x, h => by cases h
  | y :: l, h, x, hx => by
    simp only [nrL, Bool.and_eq_true] at h
    rcases List.mem_cons.1 hx with rfl | hx
    · exact h.1
    · exact nrL_mem l h.2 x hx
theorem nrL_of : ∀ (l : List AV), (∀ x ∈ l, nr x = true) → nrL l = true
  | [], _ => rfl
  | y :: l, h => by simp only [nrL, Bool.and_eq_true]; exact ⟨h y (by simp), nrL_of l fun x hx => h x (by simp [hx])⟩
theorem nrL_append (a b : List AV) : nrL (a ++ b) = (nrL a && nrL b) := by
  induction a with
  | nil => simp [nrL]
  | cons x a ih => simp [nrL, ih, Bool.and_assoc]

mutual
theorem R_nr {c c' : Wz} (hw : c'.w = c.w) (hz : ∀ b o, c.Z b o → c'.Z b o) : ∀ (x : AV) (v : Value), nr x = true → R c x v → R c' x v
  | .undef, _, _, _ => by simp [R]
  | .sc _, _, _, h => by simpa [R] using h
  | .vec _ _ _ cs, _, hn, h => by
    simp only [R, nr] at h hn ⊢
    rcases h with ⟨a, cap, h1, h2, h3, h4, h5, h6⟩ | h
    · exact .inl ⟨a, cap, h1, h2, h3, h4, h5, RZ_nr hw hz cs _ _ hn h6⟩
    · exact .inr h
  | .agg cs, _, hn, h => by
    simp only [R, nr] at h hn ⊢
    obtain ⟨vs, h1, h2⟩ := h
    exact ⟨vs, h1, RL_nr hw hz cs _ hn h2⟩
  | .tup cs, _, hn, h => by
    simp only [R, nr] at h hn ⊢
    obtain ⟨vs, h1, h2⟩ := h
    exact ⟨vs, h1, RL_nr hw hz cs _ hn h2⟩
  | .fn _ fs cs, _, hn, h => by
    simp only [R, nr, Bool.and_eq_true] at h hn ⊢
    obtain ⟨as, bs, h1, h2, h3⟩ := h
    exact ⟨as, bs, h1, RL_nr hw hz fs _ hn.1 h2, RL_nr hw hz cs _ hn.2 h3⟩
  | .ifc _ x, _, hn, h => by
    simp only [R, nr] at h hn ⊢
    obtain ⟨v, h1, h2⟩ := h
    exact ⟨v, h1, R_nr hw hz x _ hn h2⟩
  | .cp cs _, _, hn, h => by
    simp only [R, nr] at h hn ⊢
    obtain ⟨a, h1, h2, h3, h4⟩ := h
    exact ⟨a, h1, h2, h3, RZ_nr hw hz cs _ _ hn h4⟩
  | .pp _ _, _, hn, _ => by simp [nr] at hn
  | .mp _, _, hn, _ => by simp [nr] at hn
  | .ap _ _ _ _, _, hn, _ => by simp [nr] at hn
theorem RL_nr {c c' : Wz} (hw : c'.w = c.w) (hz : ∀ b o, c.Z b o → c'.Z b o) : ∀ (xs : List AV) (vs : List Value), nrL xs = true → RL c xs vs → RL c' xs vs
  | [], _, _, h => by simpa [RL] using h
  | x :: xs, _, hn, h => by
    simp only [RL, nrL, Bool.and_eq_true] at h hn ⊢
    obtain ⟨v, r, h1, h2, h3⟩ := h
    exact ⟨v, r, h1, R_nr hw hz x _ hn.1 h2, RL_nr hw hz xs _ hn.2 h3⟩
theorem RZ_nr {c c' : Wz} (hw : c'.w = c.w) (hz : ∀ b o, c.Z b o → c'.Z b o) : ∀ (xs : List AV) (b o : Nat), nrL xs = true → RZ c b o xs → RZ c' b o xs
  | [], _, _, _, _ => by simp [RZ]
  | x :: xs, b, o, hn, h => by
    simp only [RZ, nrL, Bool.and_eq_true] at h hn ⊢
    obtain ⟨⟨v, h1, h2, h3⟩, h4⟩ := h
    exact ⟨⟨v, by rw [hw]; exact h1, hz _ _ h2, R_nr hw hz x _ hn.1 h3⟩, RZ_nr hw hz xs _ _ hn.2 h4⟩
end

def isObj : Pos → Prop
  | .blk (.obj _) | .cell (.obj _) _ => True
  | _ => False
def objB (N : Nat) (ow : Nat → Option Pos) (b : Nat) : Prop := b < N ∧ ∃ p, ow b = some p ∧ isObj p
def owSl (ow : Nat → Option Pos) (b : Nat) : Option Pos := match ow b with | some (.slot t) => some (.slot t) | _ => none
open Classical in
noncomputable def owBk (G : Gh) (N : Nat) (ow ow' : Nat → Option Pos) (b : Nat) : Option Pos := if G.F b ∨ objB N ow b then (match ow b with | some (.slot _) => none | x => x) else owSl ow' b

/-- What does its work with no object shared does it beside any. -/
theorem CallOk.lift {P : Program} {g : FuncId} {args : List AV} {Q : AV → Prop} (ha : nrL args = true) (h : CallOk P g args [] fun v _ => nr v = true ∧ Q v) (gs : List AObj) : CallOk P g args gs fun v gs' => gs' = gs ∧ Q v := by
  intro w G ow L vs hl hr
  let G1 : Gh := ⟨G.Z, fun _ _ _ => False, fun b => G.F b ∨ objB w.heap.size ow b⟩
  have hst : HRel (deadM []) (argF args) (argV vs) w L G1 (owSl ow) := by
    refine { sl := ?_, ob := ?_, so := ?_, co := ?_, zb := hr.zb, fb := ?_, hd := fun _ _ _ k => k.elim, hf := fun _ _ _ _ k => k.elim }
    · intro t
      have h1 := RS_dead (hr.sl t)
      refine RS_of_R (R_nr (c := G.wz w) (c' := G1.wz w) rfl (fun _ _ k => k) _ _ ?_ h1)
      rcases argF_get (args := args) (i := t) with e | e
      · rw [e]; rfl
      · exact nrL_mem _ ha _ (List.mem_of_getElem? e)
    · intro l hl'
      cases l with
      | loc d => exact hl'.elim
      | obj id => simp [look, deadM, alive] at hl'
    · intro t e n cs a k hx hv
      obtain ⟨k1, k2⟩ := hr.so t e n cs a k hx hv
      exact ⟨by unfold owSl; rw [k1], k2⟩
    · intro l ver cs b vs' T j x v h1
      cases l with
      | loc d => cases h1
      | obj id => simp [look, deadM] at h1
    · rintro b (hb | ⟨hb, p, hp, hpo⟩)
      · have := hr.fb b hb
        exact ⟨this.1, by unfold owSl; rw [this.2]⟩
      · refine ⟨hb, ?_⟩
        unfold owSl; rw [hp]
        match p, hpo with
        | .blk (.obj _), _ => rfl
        | .cell (.obj _) _, _ => rfl
  refine (h w G1 _ L vs hl hst).mono ?_
  rintro e w' ⟨v, av, gs', G', ow', L', rfl, ⟨hnr, hQ⟩, hr', hx⟩
  have hF : ∀ b, G'.F b ↔ (G.F b ∨ objB w.heap.size ow b) := fun b => by rw [hx.F]
  let G2 : Gh := ⟨G'.Z, G.H, G.F⟩
  have hle : Wz.le (G.wz w) (G2.wz w') := ⟨fun b o k => hx.le.z b o k, fun _ _ _ k => k⟩
  have keep : ∀ b, G.F b ∨ objB w.heap.size ow b → w'.heap[b]? = w.heap[b]? := fun b hb => hx.keep b hb
  have zf : ∀ b o, G.F b ∨ objB w.heap.size ow b → G'.Z b o → G.Z b o := fun b o hb => hx.zf b o hb
  have hin : ∀ b p, objB w.heap.size ow b → ow b = some p → owBk G w.heap.size ow ow' b = some p := by
    intro b p hb hp
    unfold owBk; rw [if_pos (.inr hb), hp]
    obtain ⟨_, p', hp', hpo⟩ := hb
    rw [hp] at hp'; injection hp' with hp'; subst hp'
    match p, hpo with
    | .blk (.obj _), _ => rfl
    | .cell (.obj _) _, _ => rfl
  have hRv : R (G2.wz w') av v := by
    have := hr'.sl 0
    simp only [resF, resV, upd_at] at this
    exact R_nr (c := G'.wz w') (c' := G2.wz w') rfl (fun _ _ k => k) _ _ hnr (RS_dead this)
  refine ⟨v, av, gs, G2, owBk G w.heap.size ow ow', L, rfl, ⟨rfl, hQ⟩, { sl := ?_, ob := ?_, so := ?_, co := ?_, zb := hr'.zb, fb := ?_, hd := ?_, hf := hr.hf }, ⟨hle, rfl, fun b hb => keep b (.inl hb), fun b o hb hz => zf b o (.inl hb) hz, hx.size, hx.os, hx.output, hx.tape⟩⟩
  · intro t
    by_cases ht : t = 0
    · subst ht; simp only [resF, resV, upd_at]; exact RS_of_R hRv
    · simp only [resF, resV, upd_ne _ _ ht]; simp [RS, R]
  · intro l hl'
    cases l with
    | loc d => exact hl'.elim
    | obj id =>
      obtain ⟨b, k1, k2, k3, k4, k5⟩ := hr.ob (.obj id) hl'
      have hb : objB w.heap.size ow b := ⟨k3, _, k4, trivial⟩
      exact ⟨b, k1, ORel_mono hle (keep b (.inr hb)) _ k2, Nat.lt_of_lt_of_le k3 hx.size, hin b _ hb k4, fun o hz => k5 o (zf b o (.inr hb) hz)⟩
  · intro t
    by_cases ht : t = 0
    · subst ht
      intro e n cs a k q1 q2
      obtain ⟨k1, k2⟩ := hr'.so 0 e n cs a k q1 q2
      refine ⟨?_, k2⟩
      have hnf : ¬ (G.F a.block ∨ objB w.heap.size ow a.block) := fun hb => by
        have := (hr'.fb _ ((hF _).2 hb)).2
        rw [k1] at this; cases this
      unfold owBk; rw [if_neg hnf]; unfold owSl; rw [k1]
    · simp only [resF, resV, upd_ne _ _ ht]; exact VOk_plain trivial
  · intro l ver cs b vs' T j x u k1 k2 k3 k4 k5
    cases l with
    | loc d => cases k1
    | obj id =>
      intro e n c a k hx' hv
      obtain ⟨b', e1, e2, e3, e4, e5⟩ := hr.ob (.obj id) (by rw [k1]; trivial)
      have hbb : b = b' := by
        rw [k1] at k2 e1
        exact hr.hf _ _ _ _ k2 e1
      subst hbb
      have hb : objB w.heap.size ow b := ⟨e3, _, e4, trivial⟩
      obtain ⟨q1, us, T', q2, q3, q4⟩ := hr.co (.obj id) ver cs b vs' T j x u k1 k2 ((keep b (.inr hb)).symm.trans k3) k4 k5 e n c a k hx' hv
      have hb2 : objB w.heap.size ow a.block := ⟨(Array.getElem?_eq_some_iff.1 q2).1, _, q1, trivial⟩
      exact ⟨hin _ _ hb2 q1, us, T', (keep _ (.inr hb2)).trans q2, q3, fun o hz => q4 o (zf _ _ (.inr hb2) hz)⟩
  · intro b hb
    have h0 := hr.fb b hb
    refine ⟨Nat.lt_of_lt_of_le h0.1 hx.size, ?_⟩
    unfold owBk; rw [if_pos (.inl hb), h0.2]
  · intro i u b hb
    have := hr.hd i u b hb
    exact ⟨this.1, Nat.lt_of_lt_of_le this.2 hx.size⟩
end Go.Proofs.YtjchgncgkhofhaaGreat.AL
