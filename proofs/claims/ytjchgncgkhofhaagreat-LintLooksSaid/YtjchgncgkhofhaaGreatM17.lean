/- The plain law, fourth part: the reference's renaming is the program's. -/
import Derived.Test.YtjchgncgkhofhaaGreatM16
set_option linter.unusedVariables false
namespace Go.Proofs.YtjchgncgkhofhaaGreat.AL
open Go
/-- What a run of fits over two lists of things comes to, and which pairs it leaves. -/
theorem fit_pairs : ∀ (X Y : List Th) (w : Way), X.length = Y.length →
    ((∃ w', fitL w X Y = some w') ↔ (∀ p ∈ X.zip Y, (p.1.kind ≠ 4 → p.1 = p.2) ∧ (p.1.kind = 4 → ∀ z, standsP w p.1 = some z → z = p.2)) ∧ ∀ p ∈ X.zip Y, ∀ q ∈ X.zip Y, p.1.kind = 4 → p.1 = q.1 → p.2 = q.2)
  | [], Y, w, h => by simp [fitL]
  | x :: X, [], w, h => by cases h
  | x :: X, y :: Y, w, h => by
    have hl : X.length = Y.length := by simpa using h
    simp only [fitL, List.zip_cons_cons, List.forall_mem_cons]
    by_cases hk : x.kind = 4
    · simp only [if_pos hk]
      cases hs : standsP w x with
      | some z =>
        simp only
        by_cases hz : z = y
        · rw [if_pos hz, fit_pairs X Y w hl]
          constructor
          · rintro ⟨h1, h2⟩
            refine ⟨⟨⟨fun k => absurd hk k, fun _ z' e => ?_⟩, h1⟩, ⟨⟨fun _ _ => trivial, fun q hq _ e => ?_⟩, fun p hp => ⟨fun k e => ?_, h2 p hp⟩⟩⟩
            · cases e; exact hz
            · have := (h1 q hq).2 (by rw [← e]; exact hk) z (by rw [← e]; exact hs)
              rw [← this]; exact hz.symm
            · have := (h1 p hp).2 k z (by rw [e]; exact hs)
              rw [← this]; exact hz
          · rintro ⟨⟨_, h1⟩, ⟨_, h2⟩⟩
            exact ⟨h1, fun p hp => (h2 p hp).2⟩
        · rw [if_neg hz]
          constructor
          · rintro ⟨w', h⟩; cases h
          · rintro ⟨⟨⟨_, h1⟩, _⟩, _⟩
            exact absurd (h1 hk z rfl) hz
      | none =>
        simp only
        rw [fit_pairs X Y _ hl]
        constructor
        · rintro ⟨h1, h2⟩
          have h3 : ∀ p ∈ X.zip Y, p.1 = x → p.2 = y := fun p hp e => by
            have := (h1 p hp).2 (by rw [e]; exact hk) y (by rw [stands_app, e, hs]; simp)
            exact this.symm
          refine ⟨⟨⟨fun k => absurd hk k, fun _ z' e => (by cases e)⟩, fun p hp => ⟨(h1 p hp).1, fun k z e => (h1 p hp).2 k z (by rw [stands_app, e])⟩⟩, ⟨⟨fun _ _ => trivial, fun q hq _ e => (h3 q hq e.symm).symm⟩, fun p hp => ⟨fun k e => h3 p hp e, h2 p hp⟩⟩⟩
        · rintro ⟨⟨_, h1⟩, ⟨⟨_, h3⟩, h2⟩⟩
          refine ⟨fun p hp => ⟨(h1 p hp).1, fun k z e => ?_⟩, fun p hp => (h2 p hp).2⟩
          rw [stands_app] at e
          cases hs2 : standsP w p.1 with
          | some z' => rw [hs2] at e; cases e; exact (h1 p hp).2 k z hs2
          | none =>
            rw [hs2] at e
            simp only at e
            split at e
            · rename_i e2; cases e; exact ((h2 p hp).1 k e2.symm).symm
            · cases e
    · simp only [if_neg hk]
      by_cases hxy : x = y
      · rw [if_pos hxy, fit_pairs X Y w hl]
        constructor
        · rintro ⟨h1, h2⟩
          exact ⟨⟨⟨fun _ => hxy, fun k => absurd k hk⟩, h1⟩, ⟨⟨fun k => absurd k hk, fun q hq k => absurd k hk⟩, fun p hp => ⟨fun k e => absurd (by rw [← e]; exact k) hk, h2 p hp⟩⟩⟩
        · rintro ⟨⟨_, h1⟩, ⟨_, h2⟩⟩
          exact ⟨h1, fun p hp => (h2 p hp).2⟩
      · rw [if_neg hxy]
        constructor
        · rintro ⟨w', h⟩; cases h
        · rintro ⟨⟨⟨h1, _⟩, _⟩, _⟩
          exact absurd (h1 hk) hxy
theorem fit_mem : ∀ (X Y : List Th) (w w' : Way), X.length = Y.length → fitL w X Y = some w' → (∀ e ∈ w, e ∈ w') ∧ (∀ e ∈ w', e ∈ w ∨ (e ∈ X.zip Y ∧ e.1.kind = 4)) ∧ ∀ p ∈ X.zip Y, p.1.kind = 4 → p ∈ w'
  | [], Y, w, w', h, hf => by simp only [fitL] at hf; cases hf; simp
  | x :: X, [], w, w', h, hf => by cases h
  | x :: X, y :: Y, w, w', h, hf => by
    have hl : X.length = Y.length := by simpa using h
    have smem : ∀ (u : Way) (x y : Th), standsP u x = some y → (x, y) ∈ u := by
      intro u
      induction u with
      | nil => intro x y h; cases h
      | cons p r ih =>
        intro x y h
        simp only [standsP] at h
        split at h
        · rename_i e; cases h; rw [← e]; exact List.mem_cons_self ..
        · exact List.mem_cons_of_mem _ (ih x y h)
    simp only [fitL] at hf
    simp only [List.zip_cons_cons, List.mem_cons, forall_eq_or_imp]
    by_cases hk : x.kind = 4
    · rw [if_pos hk] at hf
      cases hs : standsP w x with
      | some z =>
        rw [hs] at hf
        simp only at hf
        split at hf
        · rename_i hz
          obtain ⟨h1, h2, h3⟩ := fit_mem X Y w w' hl hf
          exact ⟨h1, fun e he => (h2 e he).imp id fun h => ⟨.inr h.1, h.2⟩, fun _ => h1 _ (by rw [← hz]; exact smem w x z hs), h3⟩
        · cases hf
      | none =>
        rw [hs] at hf
        simp only at hf
        obtain ⟨h1, h2, h3⟩ := fit_mem X Y _ w' hl hf
        refine ⟨fun e he => h1 e (List.mem_append_left _ he), fun e he => ?_, fun _ => h1 _ (List.mem_append_right _ (List.mem_singleton.2 rfl)), h3⟩
        rcases h2 e he with h | h
        · rcases List.mem_append.1 h with h | h
          · exact .inl h
          · rw [List.mem_singleton] at h; subst h; exact .inr ⟨.inl rfl, hk⟩
        · exact .inr ⟨.inr h.1, h.2⟩
    · rw [if_neg hk] at hf
      split at hf
      · obtain ⟨h1, h2, h3⟩ := fit_mem X Y w w' hl hf
        exact ⟨h1, fun e he => (h2 e he).imp id fun h => ⟨.inr h.1, h.2⟩, fun k => absurd k hk, h3⟩
      · cases hf
theorem fit_cat : ∀ (X1 Y1 X2 Y2 : List Th) (w : Way), X1.length = Y1.length → fitL w (X1 ++ X2) (Y1 ++ Y2) = (fitL w X1 Y1).bind fun v => fitL v X2 Y2
  | [], [], X2, Y2, w, h => by simp [fitL]
  | [], y :: Y, X2, Y2, w, h => by cases h
  | x :: X, [], X2, Y2, w, h => by cases h
  | x :: X, y :: Y, X2, Y2, w, h => by
    have hl : X.length = Y.length := by simpa using h
    simp only [List.cons_append, fitL]
    split
    · split
      · split
        · exact fit_cat X Y X2 Y2 w hl
        · rfl
      · exact fit_cat X Y X2 Y2 _ hl
    · split
      · exact fit_cat X Y X2 Y2 w hl
      · rfl
theorem again_sem : ∀ (A B : List Pt) (to fr : Way), A.length = B.length → ∀ to', againA to fr A B = some to' ↔ allZ samePt A B = true ∧ (∃ fr', fitL fr (B.flatMap (·.things)) (A.flatMap (·.things)) = some fr') ∧ fitL to (A.flatMap (·.things)) (B.flatMap (·.things)) = some to'
  | [], [], to, fr, h, to' => by simp [againA, fitL, allZ]
  | [], y :: Y, to, fr, h, to' => by cases h
  | x :: X, [], to, fr, h, to' => by cases h
  | x :: X, y :: Y, to, fr, h, to' => by
    have hl : X.length = Y.length := by simpa using h
    simp only [againA, fitP, allZ, List.flatMap_cons]
    have hsy : samePt y x = samePt x y := by
      simp only [samePt, eq_comm]
    rw [hsy]
    by_cases hs : samePt x y = true
    · have hlen : x.things.length = y.things.length := by
        simp only [samePt, Bool.and_eq_true, decide_eq_true_eq] at hs; exact hs.2
      rw [fit_cat _ _ _ _ to hlen, fit_cat _ _ _ _ fr hlen.symm]
      simp only [hs, if_true, Bool.true_and]
      cases h1 : fitL to x.things y.things with
      | none => simp
      | some t =>
        cases h2 : fitL fr y.things x.things with
        | none => simp
        | some f => simp only [Option.bind_some]; exact again_sem X Y t f hl to'
    · simp [hs]
theorem thP_cat : ∀ (a b : List Tm) (n : Nat), thP (a ++ b) n = thP a n ++ thP b (thN a n)
  | [], b, n => rfl
  | t :: a, b, n => by
    simp only [List.cons_append, thP, thN]
    split
    · rw [thP_cat a b]; rfl
    · rw [thP_cat a b]; rfl
theorem flat_things : ∀ (ls : List Lt) (n : Nat), (flatB ls n).flatMap (·.things) = thP (ls.flatMap termsL) n
  | [], n => rfl
  | l :: ls, n => by
    simp only [flatB, List.flatMap_cons, thP_cat, partL]
    rw [flat_things ls]
/-! ### The program's numbering of names -/
def named2 (p : Tm × Tm) : Prop := plainV p.1 p.2 = false
structure InvM (t : NM) (i : Nat) : Prop where
  lo : ∀ s, 0 ≤ getM t s ∧ getM t s ≤ i
  inj : ∀ s s', getM t s ≠ 0 → getM t s = getM t s' → s = s'
theorem getM_set (m : NM) (s k : ByteArray) (v : Int) : getM (setM m s v) k = if k = s then v else getM m k := by
  induction m with
  | nil => simp [setM, getM]
  | cons p r ih =>
    obtain ⟨a, w⟩ := p
    simp only [setM]
    by_cases h : s = a
    · simp only [if_pos h, getM]
      by_cases hk : k = s
      · rw [if_pos hk, if_pos hk]
      · rw [if_neg hk, if_neg hk, if_neg (by rw [← h]; exact hk)]
    · simp only [if_neg h, getM]
      by_cases hk : k = a
      · rw [if_pos hk, if_pos hk, if_neg (by rw [hk]; exact fun e => h e.symm)]
      · rw [if_neg hk, if_neg hk, ih]
theorem InvM.set {t : NM} {i : Nat} (h : InvM t i) (s : ByteArray) (hs : getM t s = 0) : InvM (setM t s ((i + 1 : Nat) : Int)) (i + 1) := by
  refine ⟨fun k => ?_, fun k k' => ?_⟩
  · rw [getM_set]
    have := h.lo k
    split <;> omega
  · rw [getM_set, getM_set]
    have h1 := h.lo k
    have h2 := h.lo k'
    by_cases e1 : k = s <;> by_cases e2 : k' = s
    · intro _ _; rw [e1, e2]
    · rw [if_pos e1, if_neg e2]; intro _ e; omega
    · rw [if_neg e1, if_pos e2]; intro _ e; omega
    · rw [if_neg e1, if_neg e2]; exact h.inj k k'
theorem InvM.up {t : NM} {i : Nat} (h : InvM t i) : InvM t (i + 1) := ⟨fun k => by have := h.lo k; omega, h.inj⟩
theorem agA_sem : ∀ (X Y : List Tm) (t b : NM) (i : Nat), InvM t i → InvM b i → X.length = Y.length →
    (agA t b X Y i = true ↔ (∀ p ∈ X.zip Y, (plainV p.1 p.2 = true → bareE p.1 p.2 = true) ∧ (named2 p → getM t p.1.text = getM b p.2.text)) ∧ ∀ p ∈ X.zip Y, ∀ q ∈ X.zip Y, named2 p → named2 q → (p.1.text = q.1.text ↔ p.2.text = q.2.text))
  | [], Y, t, b, i, ht, hb, h => by simp [agA]
  | x :: X, [], t, b, i, ht, hb, h => by cases h
  | x :: X, y :: Y, t, b, i, ht, hb, h => by
    have hl : X.length = Y.length := by simpa using h
    simp only [agA, List.zip_cons_cons, List.forall_mem_cons]
    by_cases hp : plainV x y = true
    · have hn : ¬ named2 (x, y) := by unfold named2; simp [hp]
      simp only [if_pos hp]
      by_cases hb' : bareE x y = true
      · rw [if_pos hb', agA_sem X Y t b (i + 1) ht.up hb.up hl]
        constructor
        · rintro ⟨h1, h2⟩
          exact ⟨⟨⟨fun _ => hb', fun k => absurd k hn⟩, h1⟩, ⟨⟨fun k => absurd k hn, fun q hq k => absurd k hn⟩, fun p hp => ⟨fun _ k => absurd k hn, h2 p hp⟩⟩⟩
        · rintro ⟨⟨_, h1⟩, ⟨_, h2⟩⟩
          exact ⟨h1, fun p hp => (h2 p hp).2⟩
      · rw [if_neg hb']
        constructor
        · intro h; cases h
        · rintro ⟨⟨⟨h1, _⟩, _⟩, _⟩; exact absurd (h1 hp) hb'
    · have hn : named2 (x, y) := by unfold named2; simpa using hp
      rw [if_neg hp]
      by_cases he : getM t x.text = getM b y.text
      · rw [if_pos he]
        by_cases hz : getM t x.text = 0
        · rw [if_pos hz, agA_sem X Y _ _ (i + 1) (ht.set _ hz) (hb.set _ (by rw [← he]; exact hz)) hl]
          have key : ∀ p : Tm × Tm, (getM (setM t x.text ((i + 1 : Nat) : Int)) p.1.text = getM (setM b y.text ((i + 1 : Nat) : Int)) p.2.text ↔ getM t p.1.text = getM b p.2.text ∧ (p.1.text = x.text ↔ p.2.text = y.text)) := by
            intro p
            rw [getM_set, getM_set]
            have h1 := ht.lo p.1.text
            have h2 := hb.lo p.2.text
            by_cases e1 : p.1.text = x.text <;> by_cases e2 : p.2.text = y.text
            · rw [if_pos e1, if_pos e2]
              refine ⟨fun _ => ⟨?_, ⟨fun _ => e2, fun _ => e1⟩⟩, fun _ => rfl⟩
              rw [e1, e2]; exact he
            · rw [if_pos e1, if_neg e2]
              exact ⟨fun h => by omega, fun h => absurd (h.2.1 e1) e2⟩
            · rw [if_neg e1, if_pos e2]
              exact ⟨fun h => by omega, fun h => absurd (h.2.2 e2) e1⟩
            · rw [if_neg e1, if_neg e2]
              exact ⟨fun h => ⟨h, ⟨fun k => absurd k e1, fun k => absurd k e2⟩⟩, fun h => h.1⟩
          constructor
          · rintro ⟨h1, h2⟩
            refine ⟨⟨⟨fun k => absurd k hp, fun _ => he⟩, fun p hp' => ⟨(h1 p hp').1, fun k => ((key p).1 ((h1 p hp').2 k)).1⟩⟩, ⟨⟨fun _ _ => trivial, fun q hq _ k => ?_⟩, fun p hp' => ⟨fun k _ => ((key p).1 ((h1 p hp').2 k)).2, h2 p hp'⟩⟩⟩
            have := ((key q).1 ((h1 q hq).2 k)).2
            exact ⟨fun e => (this.1 e.symm).symm, fun e => (this.2 e.symm).symm⟩
          · rintro ⟨⟨_, h1⟩, ⟨_, h2⟩⟩
            exact ⟨fun p hp' => ⟨(h1 p hp').1, fun k => (key p).2 ⟨(h1 p hp').2 k, (h2 p hp').1 k hn⟩⟩, fun p hp' => (h2 p hp').2⟩
        · rw [if_neg hz, agA_sem X Y _ _ (i + 1) ht.up hb.up hl]
          have key : ∀ p : Tm × Tm, getM t p.1.text = getM b p.2.text → (p.1.text = x.text ↔ p.2.text = y.text) := by
            intro p e
            constructor
            · intro k; exact (hb.inj y.text p.2.text (by rw [← he]; exact hz) (by rw [← he, ← k]; exact e)).symm
            · intro k; exact (ht.inj x.text p.1.text hz (by rw [he, ← k]; exact e.symm)).symm
          constructor
          · rintro ⟨h1, h2⟩
            refine ⟨⟨⟨fun k => absurd k hp, fun _ => he⟩, h1⟩, ⟨⟨fun _ _ => trivial, fun q hq _ k => ?_⟩, fun p hp' => ⟨fun k _ => key p ((h1 p hp').2 k), h2 p hp'⟩⟩⟩
            have := key q ((h1 q hq).2 k)
            exact ⟨fun e => (this.1 e.symm).symm, fun e => (this.2 e.symm).symm⟩
          · rintro ⟨⟨_, h1⟩, ⟨_, h2⟩⟩
            exact ⟨h1, fun p hp' => (h2 p hp').2⟩
      · rw [if_neg he]
        constructor
        · intro h; cases h
        · rintro ⟨⟨⟨_, h1⟩, _⟩, _⟩; exact absurd (h1 hn) he
end Go.Proofs.YtjchgncgkhofhaaGreat.AL
/- The plain law, fifth part: both say the same of twins; the two looks are one. -/
set_option linter.unusedVariables false
namespace Go.Proofs.YtjchgncgkhofhaaGreat.AL
open Go
theorem zip_sw {α β : Type} : ∀ (X : List α) (Y : List β) (p : α × β), p ∈ X.zip Y → (p.2, p.1) ∈ Y.zip X
  | [], Y, p, h => by simp at h
  | x :: X, [], p, h => by simp at h
  | x :: X, y :: Y, p, h => by
    simp only [List.zip_cons_cons, List.mem_cons] at h ⊢
    rcases h with rfl | h
    · exact .inl rfl
    · exact .inr (zip_sw X Y p h)
theorem anon_kind {t : Tm} (h : anon t = true) : t.kind = 4 ∧ t.text = usB := by
  unfold anon isVar at h; simpa using h
theorem th_pairs : ∀ (ts us : List Tm) (n : Nat), (∀ p ∈ ts.zip us, plainV p.1 p.2 = true → bareE p.1 p.2 = true) →
    ∀ p ∈ (thP ts n).zip (thP us n), (∃ q ∈ ts.zip us, named2 q ∧ q.1.kind = 4 ∧ q.2.kind = 4 ∧ p = (thingT q.1, thingT q.2)) ∨ (p.1 = p.2 ∧ (p.1.kind = 4 → p.1.own > 0))
  | [], us, n, h, p, hp => by simp [thP] at hp
  | t :: ts, [], n, h, p, hp => by simp [thP] at hp
  | t :: ts, u :: us, n, h, p, hp => by
    simp only [List.zip_cons_cons, List.forall_mem_cons] at h
    have go : ∀ m, p ∈ (thP ts m).zip (thP us m) → (∃ q ∈ (t :: ts).zip (u :: us), named2 q ∧ q.1.kind = 4 ∧ q.2.kind = 4 ∧ p = (thingT q.1, thingT q.2)) ∨ (p.1 = p.2 ∧ (p.1.kind = 4 → p.1.own > 0)) := by
      intro m hm
      rcases th_pairs ts us m h.2 p hm with ⟨q, hq, h1⟩ | h1
      · exact .inl ⟨q, by rw [List.zip_cons_cons]; exact List.mem_cons_of_mem _ hq, h1⟩
      · exact .inr h1
    by_cases hn : plainV t u = true
    · have hb := h.1 hn
      simp only [bareE, Bool.and_eq_true, decide_eq_true_eq] at hb
      obtain ⟨e1, e2, e3⟩ := hb
      have ea : anon t = anon u := by unfold anon isVar; rw [e1, e3]
      by_cases ha : anon t = true
      · have ha2 : anon u = true := by rw [← ea]; exact ha
        simp only [thP, if_pos ha, if_pos ha2, List.zip_cons_cons, List.mem_cons] at hp
        rcases hp with rfl | hp
        · right
          refine ⟨by simp only [e1, e2, e3], fun _ => ?_⟩
          show ((n + 1 : Nat) : Int) > 0; omega
        · exact go (n + 1) hp
      · have ha2 : ¬ anon u = true := by rw [← ea]; exact ha
        simp only [thP, if_neg ha, if_neg ha2, List.zip_cons_cons, List.mem_cons] at hp
        rcases hp with rfl | hp
        · right
          refine ⟨by simp only [e1, e2, e3], fun hk => ?_⟩
          have hk : t.kind = 4 := hk
          exfalso
          unfold plainV isVar at hn
          have hk2 : u.kind = 4 := by rw [← e1]; exact hk
          simp [hk, hk2, ha, ha2] at hn
        · exact go n hp
    · have hn' : named2 (t, u) := by unfold named2; simpa using hn
      have hv : t.kind = 4 ∧ u.kind = 4 ∧ ¬ anon t = true ∧ ¬ anon u = true := by
        have := hn'
        unfold named2 plainV isVar at this
        simp at this
        exact ⟨this.1.1.1, this.1.1.2, by simp [this.1.2], by simp [this.2]⟩
      obtain ⟨k1, k2, ha, ha2⟩ := hv
      simp only [thP, if_neg ha, if_neg ha2, List.zip_cons_cons, List.mem_cons] at hp
      rcases hp with rfl | hp
      · exact .inl ⟨(t, u), by rw [List.zip_cons_cons]; exact List.mem_cons_self .., hn', k1, k2, rfl⟩
      · exact go n hp
theorem th_back : ∀ (ts us : List Tm) (n m : Nat), ∀ q ∈ ts.zip us, ∃ p ∈ (thP ts n).zip (thP us m),
    p.1.kind = q.1.kind ∧ p.1.num = q.1.num ∧ p.1.text = q.1.text ∧ p.2.kind = q.2.kind ∧ p.2.num = q.2.num ∧ p.2.text = q.2.text ∧ (p.1.own > 0 ↔ anon q.1 = true) ∧ (p.2.own > 0 ↔ anon q.2 = true) ∧ (anon q.1 = false → p.1 = thingT q.1) ∧ (anon q.2 = false → p.2 = thingT q.2)
  | [], us, n, m, q, hq => by simp at hq
  | t :: ts, [], n, m, q, hq => by simp at hq
  | t :: ts, u :: us, n, m, q, hq => by
    simp only [List.zip_cons_cons, List.mem_cons] at hq
    simp only [thP]
    rcases hq with rfl | hq
    · by_cases ha : anon t = true <;> by_cases hb : anon u = true
      · simp only [if_pos ha, if_pos hb, List.zip_cons_cons]
        exact ⟨_, List.mem_cons_self .., rfl, rfl, rfl, rfl, rfl, rfl, ⟨fun _ => ha, fun _ => by show ((n + 1 : Nat) : Int) > 0; omega⟩, ⟨fun _ => hb, fun _ => by show ((m + 1 : Nat) : Int) > 0; omega⟩, fun h => absurd ha (by simp [h]), fun h => absurd hb (by simp [h])⟩
      · simp only [if_pos ha, if_neg hb, List.zip_cons_cons]
        exact ⟨_, List.mem_cons_self .., rfl, rfl, rfl, rfl, rfl, rfl, ⟨fun _ => ha, fun _ => by show ((n + 1 : Nat) : Int) > 0; omega⟩, ⟨fun h => absurd h (by show ¬ (0 : Int) > 0; omega), fun h => absurd h hb⟩, fun h => absurd ha (by simp [h]), fun h => rfl⟩
      · simp only [if_neg ha, if_pos hb, List.zip_cons_cons]
        exact ⟨_, List.mem_cons_self .., rfl, rfl, rfl, rfl, rfl, rfl, ⟨fun h => absurd h (by show ¬ (0 : Int) > 0; omega), fun h => absurd h ha⟩, ⟨fun _ => hb, fun _ => by show ((m + 1 : Nat) : Int) > 0; omega⟩, fun h => rfl, fun h => absurd hb (by simp [h])⟩
      · simp only [if_neg ha, if_neg hb, List.zip_cons_cons]
        exact ⟨_, List.mem_cons_self .., rfl, rfl, rfl, rfl, rfl, rfl, ⟨fun h => absurd h (by show ¬ (0 : Int) > 0; omega), fun h => absurd h ha⟩, ⟨fun h => absurd h (by show ¬ (0 : Int) > 0; omega), fun h => absurd h hb⟩, fun h => rfl, fun h => rfl⟩
    · by_cases ha : anon t = true <;> by_cases hb : anon u = true
      · simp only [if_pos ha, if_pos hb, List.zip_cons_cons]
        obtain ⟨p, hp, h⟩ := th_back ts us (n + 1) (m + 1) q hq
        exact ⟨p, List.mem_cons_of_mem _ hp, h⟩
      · simp only [if_pos ha, if_neg hb, List.zip_cons_cons]
        obtain ⟨p, hp, h⟩ := th_back ts us (n + 1) m q hq
        exact ⟨p, List.mem_cons_of_mem _ hp, h⟩
      · simp only [if_neg ha, if_pos hb, List.zip_cons_cons]
        obtain ⟨p, hp, h⟩ := th_back ts us n (m + 1) q hq
        exact ⟨p, List.mem_cons_of_mem _ hp, h⟩
      · simp only [if_neg ha, if_neg hb, List.zip_cons_cons]
        obtain ⟨p, hp, h⟩ := th_back ts us n m q hq
        exact ⟨p, List.mem_cons_of_mem _ hp, h⟩
theorem thing_eq {t u : Tm} (h1 : termP t = 0) (h2 : termP u = 0) (k1 : t.kind = 4) (k2 : u.kind = 4) : thingT t = thingT u ↔ t.text = u.text := by
  unfold thingT
  simp [k1, k2, term_num h1 k1, term_num h2 k2]
theorem half_fit (ts us : List Tm) (hl : ts.length = us.length) (h1 : ∀ t ∈ ts, termP t = 0) (h2 : ∀ t ∈ us, termP t = 0) (hP : ∀ p ∈ ts.zip us, plainV p.1 p.2 = true → bareE p.1 p.2 = true)
    (hN : ∀ p ∈ ts.zip us, ∀ q ∈ ts.zip us, named2 p → named2 q → p.1.text = q.1.text → p.2.text = q.2.text) : ∃ w', fitL [] (thP ts 0) (thP us 0) = some w' := by
  rw [fit_pairs _ _ _ (by rw [thP_len, thP_len, hl])]
  have hc := th_pairs ts us 0 hP
  refine ⟨fun p hp => ⟨fun hk => ?_, fun _ z hz => (by cases hz)⟩, fun p hp q hq hk e => ?_⟩
  · rcases hc p hp with ⟨r, _, _, k, _, rfl⟩ | ⟨h, _⟩
    · exact absurd k hk
    · exact h
  · rcases hc p hp with ⟨r, hr, nr, k1, k2, rfl⟩ | ⟨e1, o1⟩
    · rcases hc q hq with ⟨s, hs, ns, k3, k4, rfl⟩ | ⟨e2, o2⟩
      · have hr1 := List.of_mem_zip hr
        have hs1 := List.of_mem_zip hs
        exact (thing_eq (h2 _ hr1.2) (h2 _ hs1.2) k2 k4).2 (hN r hr s hs nr ns ((thing_eq (h1 _ hr1.1) (h1 _ hs1.1) k1 k3).1 e))
      · have := o2 (by rw [← e]; exact k1)
        rw [← e] at this
        exact absurd this (by show ¬ (0 : Int) > 0; omega)
    · rcases hc q hq with ⟨s, hs, ns, k3, k4, rfl⟩ | ⟨e2, o2⟩
      · have := o1 hk
        rw [e] at this
        exact absurd this (by show ¬ (0 : Int) > 0; omega)
      · rw [← e1, ← e2]; exact e
theorem plainV_sw (x y : Tm) : plainV y x = plainV x y := by
  unfold plainV
  cases isVar x <;> cases isVar y <;> cases anon x <;> cases anon y <;> rfl
theorem bareE_sw (x y : Tm) : bareE y x = bareE x y := by
  unfold bareE
  simp only [eq_comm]
theorem names_sem (ts us : List Tm) (hl : ts.length = us.length) (h1 : ∀ t ∈ ts, termP t = 0) (h2 : ∀ t ∈ us, termP t = 0) :
    (∃ fr, fitL [] (thP us 0) (thP ts 0) = some fr) ∧ (∃ to, fitL [] (thP ts 0) (thP us 0) = some to ∧ to.all pairOk = true) ↔ agA [] [] ts us 0 = true := by
  have i0 : InvM [] 0 := ⟨fun s => by simp [getM], fun s s' h => by simp [getM] at h⟩
  rw [agA_sem ts us [] [] 0 i0 i0 hl]
  have hXY : (thP ts 0).length = (thP us 0).length := by rw [thP_len, thP_len, hl]
  constructor
  · rintro ⟨hf, to, ht, hok⟩
    have a1 := (fit_pairs _ _ _ hXY).1 ⟨to, ht⟩
    have a2 := (fit_pairs _ _ _ hXY.symm).1 hf
    have a3 := (fit_mem _ _ _ _ hXY ht).2.2
    rw [List.all_eq_true] at hok
    have hC : ∀ p ∈ (thP ts 0).zip (thP us 0), p.1.kind = 4 → p.2.kind = 4 ∧ (p.1.own > 0 ↔ p.2.own > 0) := fun p hp hk => by
      have := hok p (a3 p hp hk)
      simp only [pairOk, Bool.and_eq_true, decide_eq_true_eq, beq_iff_eq, decide_eq_decide] at this
      exact this
    have hNk : ∀ q : Tm × Tm, named2 q → q.1.kind = 4 ∧ q.2.kind = 4 ∧ anon q.1 = false ∧ anon q.2 = false := fun q h => by
      unfold named2 plainV isVar at h
      simp at h
      exact ⟨h.1.1.1, h.1.1.2, h.1.2, h.2⟩
    refine ⟨fun q hq => ⟨fun hp => ?_, fun _ => by simp [getM]⟩, fun q hq r hr nq nr => ?_⟩
    · obtain ⟨p, hpm, b1, b2, b3, b4, b5, b6, b7, b8, b9, b10⟩ := th_back ts us 0 0 q hq
      have hz := List.of_mem_zip hq
      by_cases hk : q.1.kind = 4
      · obtain ⟨c1, c2⟩ := hC p hpm (by rw [b1]; exact hk)
        have hk2 : q.2.kind = 4 := by rw [← b4]; exact c1
        rw [b7, b8] at c2
        have ha : anon q.1 = true := by
          unfold plainV isVar at hp
          simp [hk, hk2] at hp
          rcases hp with hp | hp
          · exact hp
          · exact c2.2 hp
        have hb := c2.1 ha
        simp [bareE, hk, hk2, term_num (h1 _ hz.1) hk, term_num (h2 _ hz.2) hk2, (anon_kind ha).2, (anon_kind hb).2]
      · have e := (a1.1 p hpm).1 (by rw [b1]; exact hk)
        simp [bareE, ← b1, ← b2, ← b3, ← b4, ← b5, ← b6, e]
    · obtain ⟨p, hpm, _, _, _, _, _, _, _, _, b9, b10⟩ := th_back ts us 0 0 q hq
      obtain ⟨s, hsm, _, _, _, _, _, _, _, _, d9, d10⟩ := th_back ts us 0 0 r hr
      obtain ⟨k1, k2, n1, n2⟩ := hNk q nq
      obtain ⟨k3, k4, n3, n4⟩ := hNk r nr
      have hz := List.of_mem_zip hq
      have hy := List.of_mem_zip hr
      have e1 := b9 n1; have e2 := b10 n2; have e3 := d9 n3; have e4 := d10 n4
      constructor
      · intro e
        have := a1.2 p hpm s hsm (by rw [e1]; exact k1) (by rw [e1, e3]; exact (thing_eq (h1 _ hz.1) (h1 _ hy.1) k1 k3).2 e)
        rw [e2, e4] at this
        exact (thing_eq (h2 _ hz.2) (h2 _ hy.2) k2 k4).1 this
      · intro e
        have := a2.2 _ (zip_sw _ _ _ hpm) _ (zip_sw _ _ _ hsm) (by rw [e2]; exact k2) (by show p.2 = s.2; rw [e2, e4]; exact (thing_eq (h2 _ hz.2) (h2 _ hy.2) k2 k4).2 e)
        have this : p.1 = s.1 := this
        rw [e1, e3] at this
        exact (thing_eq (h1 _ hz.1) (h1 _ hy.1) k1 k3).1 this
  · rintro ⟨hA, hB⟩
    have hP := fun p hp => (hA p hp).1
    have hfw := half_fit ts us hl h1 h2 hP fun p hp q hq np nq => (hB p hp q hq np nq).1
    have hsw : ∀ p ∈ us.zip ts, (p.2, p.1) ∈ ts.zip us := fun p hp => zip_sw _ _ p hp
    have hbw := half_fit us ts hl.symm h2 h1 (fun p hp => by rw [← plainV_sw, ← bareE_sw]; exact hP _ (hsw p hp)) fun p hp q hq np nq =>
      (hB _ (hsw p hp) _ (hsw q hq) (by unfold named2 at np ⊢; rw [← plainV_sw]; exact np) (by unfold named2 at nq ⊢; rw [← plainV_sw]; exact nq)).2
    obtain ⟨to, ht⟩ := hfw
    refine ⟨hbw, to, ht, ?_⟩
    rw [List.all_eq_true]
    intro e he
    rcases (fit_mem _ _ _ _ hXY ht).2.1 e he with h | ⟨hm, hk⟩
    · cases h
    · rcases th_pairs ts us 0 hP e hm with ⟨q, _, _, k1, k2, rfl⟩ | ⟨e1, _⟩
      · simp [pairOk, thingT, k2]
      · simp [pairOk, ← e1, hk]
theorem allZ_same : ∀ (la lb : List Lt) (n m : Nat), (∀ l ∈ la, litP l = 0) → (∀ l ∈ lb, litP l = 0) → allZ samePt (flatB la n) (flatB lb m) = allZ alikeL la lb
  | [], lb, n, m, _, _ => by simp [flatB, allZ]
  | l :: la, [], n, m, _, _ => by simp [flatB, allZ]
  | l :: la, k :: lb, n, m, h1, h2 => by
    simp only [flatB, allZ]
    rw [samePt_eq (h1 l (List.mem_cons_self ..)) (h2 k (List.mem_cons_self ..)), allZ_same la lb _ _ (fun x hx => h1 x (List.mem_cons_of_mem _ hx)) fun x hx => h2 x (List.mem_cons_of_mem _ hx)]
theorem allT_zero {c : Cl} (h : Gd c) : ∀ t ∈ allT c, termP t = 0 := by
  intro t ht
  rcases List.mem_append.1 ht with h1 | h1
  · exact (atom_zero (clause_zero h.1).1).2.2 t h1
  · obtain ⟨l, hl, h2⟩ := List.mem_flatMap.1 h1
    exact lit_terms ((clause_zero h.1).2.2 l hl) t h2
theorem flat_all (c : Cl) : (flatP c).flatMap (·.things) = thP (allT c) 0 := by
  rw [flatP_eq, List.flatMap_cons]
  unfold allT bodyP
  rw [thP_cat, flat_things]
  rfl
theorem ag_eq {a b : Cl} (ha : Gd a) (hb : Gd b) : agP a b = agL a b := by
  have la := (clause_zero ha.1).2.2
  have lb := (clause_zero hb.1).2.2
  rw [Bool.eq_iff_iff]
  unfold agP agL eqF
  simp only [Bool.and_eq_true, decide_eq_true_eq, flatP_len]
  have hsame : samePt (headP a) (headP b) = true ↔ a.head.pred = b.head.pred ∧ a.head.args.length = b.head.args.length := by
    simp only [samePt, headP, thP_len, Bool.and_eq_true, decide_eq_true_eq, true_and, and_true]
    exact ⟨fun h => ⟨of_decide_eq_true h.1, h.2⟩, fun h => ⟨decide_eq_true h.1, h.2⟩⟩
  have hZ : allZ samePt (flatP a) (flatP b) = true ↔ (a.head.pred = b.head.pred ∧ a.head.args.length = b.head.args.length) ∧ allZ alikeL a.body b.body = true := by
    rw [flatP_eq, flatP_eq]
    simp only [allZ, Bool.and_eq_true]
    rw [hsame]
    unfold bodyP
    rw [allZ_same _ _ _ _ la lb]
  have hT : ∀ (hlen : a.body.length = b.body.length) (hz : (a.head.pred = b.head.pred ∧ a.head.args.length = b.head.args.length) ∧ allZ alikeL a.body b.body = true), (allT a).length = (allT b).length := by
    intro hlen hz
    unfold allT
    rw [List.length_append, List.length_append, hz.1.2, allZ_len _ _ hlen hz.2]
  constructor
  · rintro ⟨hlen, h⟩
    have hlen : a.body.length = b.body.length := by omega
    cases hag : againA [] [] (flatP a) (flatP b) with
    | none => rw [hag] at h; cases h
    | some to =>
      rw [hag] at h
      rw [again_sem _ _ _ _ (by rw [flatP_len, flatP_len, hlen]), flat_all, flat_all] at hag
      obtain ⟨h1, h2, h3⟩ := hag
      have hz := hZ.1 h1
      have := (names_sem _ _ (hT hlen hz) (allT_zero ha) (allT_zero hb)).1 ⟨h2, to, h3, h⟩
      exact ⟨⟨hz.1, hlen, hz.2⟩, this⟩
  · rintro ⟨⟨hh, hlen, hz⟩, hag⟩
    refine ⟨by omega, ?_⟩
    have hz' := And.intro hh hz
    obtain ⟨h2, to, h3, h⟩ := (names_sem _ _ (hT hlen hz') (allT_zero ha) (allT_zero hb)).2 hag
    have : againA [] [] (flatP a) (flatP b) = some to := by
      rw [again_sem _ _ _ _ (by rw [flatP_len, flatP_len, hlen]), flat_all, flat_all]
      exact ⟨hZ.2 hz', h2, h3⟩
    rw [this]
    exact h
theorem agA_sw : ∀ (X Y : List Tm) (t b : NM) (i : Nat), agA b t Y X i = agA t b X Y i
  | [], [], t, b, i => rfl
  | [], y :: Y, t, b, i => rfl
  | x :: X, [], t, b, i => rfl
  | x :: X, y :: Y, t, b, i => by
    simp only [agA]
    rw [plainV_sw, bareE_sw, agA_sw X Y t b, agA_sw X Y (setM t _ _) (setM b _ _)]
    by_cases h : getM t x.text = getM b y.text
    · simp only [h, if_true]
    · simp only [if_neg h, if_neg fun e => h (Eq.symm e)]
theorem alikeL_sw (a b : Lt) : alikeL b a = alikeL a b := by
  unfold alikeL
  simp only [eq_comm]
theorem allZ_sw : ∀ (X Y : List Lt), allZ alikeL Y X = allZ alikeL X Y
  | [], [] => rfl
  | [], y :: Y => rfl
  | x :: X, [] => rfl
  | x :: X, y :: Y => by simp only [allZ]; rw [alikeL_sw, allZ_sw X Y]
theorem agL_sw (a b : Cl) : agL b a = agL a b := by
  unfold agL eqF
  rw [agA_sw, allZ_sw]
  simp only [eq_comm]
/-! ### The two looks -/
theorem idxP_congr {α : Type} {f g : α → Bool} : ∀ (l : List α) (i : Nat), (∀ x ∈ l, f x = g x) → idxP f l i = idxP g l i
  | [], i, h => rfl
  | x :: l, i, h => by
    simp only [idxP]
    rw [h x (List.mem_cons_self ..), idxP_congr l _ fun y hy => h y (List.mem_cons_of_mem _ hy)]
theorem idxN_congr {α : Type} {f g : Nat → α → Bool} : ∀ (l : List α) (i : Nat), (∀ j, ∀ x ∈ l, f j x = g j x) → idxN f l i = idxN g l i
  | [], i, h => rfl
  | x :: l, i, h => by
    simp only [idxN]
    rw [h i x (List.mem_cons_self ..), idxN_congr l _ fun j y hy => h j y (List.mem_cons_of_mem _ hy)]
theorem flatMap_congr' {α β : Type} {f g : α → List β} : ∀ (l : List α), (∀ x ∈ l, f x = g x) → l.flatMap f = l.flatMap g
  | [], h => rfl
  | x :: l, h => by
    rw [List.flatMap_cons, List.flatMap_cons, h x (List.mem_cons_self ..), flatMap_congr' l fun y hy => h y (List.mem_cons_of_mem _ hy)]
theorem lookG_congr {f g : Nat → Cl → List Fd} : ∀ (l : List Cl) (i : Nat), (∀ j, ∀ x ∈ l, f j x = g j x) → lookG f l i = lookG g l i
  | [], i, h => rfl
  | x :: l, i, h => by
    simp only [lookG]
    rw [h i x (List.mem_cons_self ..), lookG_congr l _ fun j y hy => h j y (List.mem_cons_of_mem _ hy)]
theorem look_eq (p : List Cl) (hw : wellP p = 0) (hr : ∀ c ∈ p, clauseR c) : lookR p = lookL p := by
  have hg : ∀ c ∈ p, Gd c := fun c hc => ⟨(well_zero hw).2 c hc, hr c hc⟩
  unfold lookR lookL
  refine lookG_congr p 0 fun i c hc => ?_
  have hb := (clause_zero (hg c hc).1).2.2
  unfold findR findL
  have e1 : twP p i c = twL p i c := by
    unfold twP twL
    exact idxP_congr _ _ fun d hd => by rw [ag_eq (hg c hc) (hg d (List.mem_of_mem_take hd)), agL_sw]
  have e2 : cvP p i c = cvL p i c := by
    unfold cvP cvL
    refine idxN_congr _ _ fun j d hd => ?_
    unfold cvF cvFL
    rw [cov_eq (hg d hd) (hg c hc), cov_eq (hg c hc) (hg d hd)]
    have : covL d c = true → d.head.pred = c.head.pred := by
      unfold covL
      simp only [Bool.and_eq_true, decide_eq_true_eq]
      exact fun h => h.2.1
    cases hcv : covL d c with
    | false => simp
    | true => simp [this hcv]
  have e3 : idxP (faultR c.body) c.body 0 = idxP (faultL c.body) c.body 0 := idxP_congr _ _ fun l hl => fault_eq (hb l hl)
  unfold findG
  rw [e1, e2, e3]
  have e4 : c.body.flatMap (idlF i fun l => decide (verdP l > 0)) = c.body.flatMap (idlF i fun l => (cmpdP l).1) := flatMap_congr' _ fun l hl => by
    unfold idlF
    simp only [(verd_cmpd (hb l hl)).1]
  rw [e4]
end Go.Proofs.YtjchgncgkhofhaaGreat.AL
/- The row of LintLooks, from the pure law. -/
set_option linter.unusedVariables false
namespace Go.Proofs.YtjchgncgkhofhaaGreat.AL
open Go Go.ChangeShapes Go.WideShapes Go.ChangeAt Go.RowKit
theorem lookG_len {f : Nat → Cl → List Fd} {B : Nat} : ∀ (l : List Cl) (i : Nat), (∀ j, ∀ x ∈ l, (f j x).length ≤ B) → (lookG f l i).length ≤ l.length * B
  | [], i, h => by simp [lookG]
  | x :: l, i, h => by
    simp only [lookG, List.length_append, List.length_cons, Nat.succ_mul]
    have h1 := h i x (List.mem_cons_self ..)
    have h2 := lookG_len l (i + 1) fun j y hy => h j y (List.mem_cons_of_mem _ hy)
    omega
theorem find_len (p : List Cl) (i : Nat) {c : Cl} (h : Gd c) : (findR p i c).length ≤ 160 := by
  have h1 : ∀ tw cv, (othF i c tw cv).length ≤ 1 := fun tw cv => by unfold othF; split <;> (try split) <;> simp
  have h2 : ∀ k, (nevF i c k).length ≤ 1 := fun k => by unfold nevF; split <;> simp
  have h3 : (singP (allT c) i).length ≤ (allT c).length := flatMap_len _ (fun x => by unfold singF; split <;> simp) _
  have h4 : ∀ idle, (c.body.flatMap (idlF i idle)).length ≤ c.body.length := fun idle => flatMap_len _ (fun x => by unfold idlF; split <;> simp) _
  have h5 : ∀ un, (unuF i c un).length ≤ 1 := fun un => by unfold unuF; split <;> simp
  have h6 := h.all
  have h7 := h.body
  unfold findR findG
  simp only [List.length_append]
  have a1 := h1 (twP p i c) (cvP p i c)
  have a2 := h2 (idxP (faultR c.body) c.body 0)
  have a4 := h4 fun l => decide (verdP l > 0)
  have a5 := h5 (unusedP p i c)
  omega
theorem looks_ok (p : List Cl) (hq : ∀ x ∈ p, clauseR x ∧ SzC x) (hl : p.length * 72 ≤ reachBytes) : POk 3 [aP p] (.sc (.bool true)) := by
  have h5 := ok5 p (Nat.le_trans hl reach_le) fun c hc => (hq c hc).2
  by_cases hw : wellP p = 0
  · have hr : ∀ c ∈ p, clauseR c := fun c hc => (hq c hc).1
    refine ok3 p (lookR p) ?_ h5 (ok6 p hw hr) (by rw [look_eq p hw hr]; exact ok7 p hw hr)
    have := lookG_len (f := findR p) p 0 fun j c hc => find_len p j ⟨(well_zero hw).2 c hc, hr c hc⟩
    have h2 := (well_zero hw).1
    unfold lookR
    omega
  · exact ok3 p [] (by simp) h5 (ok6n p hw) (ok7n p hw)
end Go.Proofs.YtjchgncgkhofhaaGreat.AL
namespace Go.Proofs.YtjchgncgkhofhaaGreat
open Go Go.ChangeShapes Go.WideShapes Go.ChangeAt Go.RowKit Go.Proofs.YtjchgncgkhofhaaGreat.AL
set_option maxRecDepth 100000 in
/-- LintLooks answers true for every program, and leaves it as it was. -/
theorem looks_holds : Rows.LintLooksSaid :=
  OpenClaim.holds_of_wide 3 Go.Proofs.Tryz.f3 rfl rfl rfl rfl rfl rfl rfl ⟨rfl, rfl, rfl, rfl, rfl⟩ rfl rfl rfl rfl rfl (by kernel_rfl) (by kernel_rfl) (by kernel_rfl)
    (of_decide_eq_true (by kernel_rfl)) (by unfold Func.isWrapper; rw [if_neg (of_decide_eq_false (by kernel_rfl))]; exact ⟨rfl, rfl⟩)
    (fun os started H enc _ => law_lifted (by kernel_rfl) (by kernel_rfl) (by kernel_rfl) (by kernel_rfl) Rows.lintLooksSpec rfl (fun _ _ => rfl)
      (fun os started H enc => ChangeSpec.witness6 (enc := enc) (C := Go.Proofs.Tryz.checked) false ⟨#[], #[.agg #[.slice none 0 0]], []⟩ 8 (by kernel_rfl) (by kernel_rfl) (by kernel_rfl) (by kernel_rfl)) looks_ok os started H enc)
#print axioms looks_holds
end Go.Proofs.YtjchgncgkhofhaaGreat
