/- The plain law, fourth part: the reference's renaming is the program's. -/
import Derived.Test.YtjchgncgkhofhaaGreatM16
import Derived.Test.YtjchgncgkhofhaaGreatM15
import Derived.Test.YtjchgncgkhofhaaGreatM8
set_option linter.unusedVariables false
namespace Go.Proofs.YtjchgncgkhofhaaGreat.AL
open Go
/-- What a run of fits over two lists of things comes to, and which pairs it leaves. -/
theorem fit_pairs : ∀ (X Y : List Th) (w : Way), X.length = Y.length →
    ((∃ w', fitL w X Y = some w') ↔ (∀ p ∈ X.zip Y, (p.1.kind ≠ 4 → p.1 = p.2) ∧ (p.1.kind = 4 → ∀ z, standsP w p.1 = some z → z = p.2)) ∧ ∀ p ∈ X.zip Y, ∀ q ∈ X.zip Y, p.1.kind = 4 → p.1 = q.1 → p.2 = q.2)
  | [], Y, w, h => by simp [fitL]
  | x :: X, [], w, h => by cases h
  | x :: X, y :: Y, w, h => by
    have hl : X.length = Y.length := by simpa using h
    simp only [fitL, List.zip_cons_cons, List.forall_mem_cons]
    by_cases hk : x.kind = 4
    · simp only [if_pos hk]
      cases hs : standsP w x with
      | some z =>
        simp only
        by_cases hz : z = y
        · rw [if_pos hz, fit_pairs X Y w hl]
          constructor
          · rintro ⟨h1, h2⟩
            refine ⟨⟨⟨fun k => absurd hk k, fun _ z' e => ?_⟩, h1⟩, ⟨⟨fun _ _ => trivial, fun q hq _ e => ?_⟩, fun p hp => ⟨fun k e => ?_, h2 p hp⟩⟩⟩
            · cases e; exact hz
            · have := (h1 q hq).2 (by rw [← e]; exact hk) z (by rw [← e]; exact hs)
              rw [← this]; exact hz.symm
            · have := (h1 p hp).2 k z (by rw [e]; exact hs)
              rw [← this]; exact hz
          · rintro ⟨⟨_, h1⟩, ⟨_, h2⟩⟩
            exact ⟨h1, fun p hp => (h2 p hp).2⟩
        · rw [if_neg hz]
          constructor
          · rintro ⟨w', h⟩; cases h
          · rintro ⟨⟨⟨_, h1⟩, _⟩, _⟩
            exact absurd (h1 hk z rfl) hz
      | none =>
        simp only
        rw [fit_pairs X Y _ hl]
        constructor
        · rintro ⟨h1, h2⟩
          have h3 : ∀ p ∈ X.zip Y, p.1 = x → p.2 = y := fun p hp e => by
            have := (h1 p hp).2 (by rw [e]; exact hk) y (by rw [stands_app, e, hs]; simp)
            exact this.symm
          refine ⟨⟨⟨fun k => absurd hk k, fun _ z' e => (by cases e)⟩, fun p hp => ⟨(h1 p hp).1, fun k z e => (h1 p hp).2 k z (by rw [stands_app, e])⟩⟩, ⟨⟨fun _ _ => trivial, fun q hq _ e => (h3 q hq e.symm).symm⟩, fun p hp => ⟨fun k e => h3 p hp e, h2 p hp⟩⟩⟩
        · rintro ⟨⟨_, h1⟩, ⟨⟨_, h3⟩, h2⟩⟩
          refine ⟨fun p hp => ⟨(h1 p hp).1, fun k z e => ?_⟩, fun p hp => (h2 p hp).2⟩
          rw [stands_app] at e
          cases hs2 : standsP w p.1 with
          | some z' => rw [hs2] at e; cases e; exact (h1 p hp).2 k z hs2
          | none =>
            rw [hs2] at e
            simp only at e
            split at e
            · rename_i e2; cases e; exact ((h2 p hp).1 k e2.symm).symm
            · cases e
    · simp only [if_neg hk]
      by_cases hxy : x = y
      · rw [if_pos hxy, fit_pairs X Y w hl]
        constructor
        · rintro ⟨h1, h2⟩
          exact ⟨⟨⟨fun _ => hxy, fun k => absurd k hk⟩, h1⟩, ⟨⟨fun k => absurd k hk, fun q hq k => absurd k hk⟩, fun p hp => ⟨fun k e => absurd (by rw [← e]; exact k) hk, h2 p hp⟩⟩⟩
        · rintro ⟨⟨_, h1⟩, ⟨_, h2⟩⟩
          exact ⟨h1, fun p hp => (h2 p hp).2⟩
      · rw [if_neg hxy]
        constructor
        · rintro ⟨w', h⟩; cases h
        · rintro ⟨⟨⟨h1, _⟩, _⟩, _⟩
          exact absurd (h1 hk) hxy
theorem fit_mem : ∀ (X Y : List Th) (w w' : Way), X.length = Y.length → fitL w X Y = some w' → (∀ e ∈ w, e ∈ w') ∧ (∀ e ∈ w', e ∈ w ∨ (e ∈ X.zip Y ∧ e.1.kind = 4)) ∧ ∀ p ∈ X.zip Y, p.1.kind = 4 → p ∈ w'
  | [], Y, w, w', h, hf => by simp only [fitL] at hf; cases hf; simp
  | x :: X, [], w, w', h, hf => by cases h
  | x :: X, y :: Y, w, w', h, hf => by
    have hl : X.length = Y.length := by simpa using h
    have smem : ∀ (u : Way) (x y : Th), standsP u x = some y → (x, y) ∈ u := by
      intro u
      induction u with
      | nil => intro x y h; cases h
      | cons p r ih =>
        intro x y h
        simp only [standsP] at h
        split at h
        · rename_i e; cases h; rw [← e]; exact List.mem_cons_self ..
        · exact List.mem_cons_of_mem _ (ih x y h)
    simp only [fitL] at hf
    simp only [List.zip_cons_cons, List.mem_cons, forall_eq_or_imp]
    by_cases hk : x.kind = 4
    · rw [if_pos hk] at hf
      cases hs : standsP w x with
      | some z =>
        rw [hs] at hf
        simp only at hf
        split at hf
        · rename_i hz
          obtain ⟨h1, h2, h3⟩ := fit_mem X Y w w' hl hf
          exact ⟨h1, fun e he => (h2 e he).imp id fun h => ⟨.inr h.1, h.2⟩, fun _ => h1 _ (by rw [← hz]; exact smem w x z hs), h3⟩
        · cases hf
      | none =>
        rw [hs] at hf
        simp only at hf
        obtain ⟨h1, h2, h3⟩ := fit_mem X Y _ w' hl hf
        refine ⟨fun e he => h1 e (List.mem_append_left _ he), fun e he => ?_, fun _ => h1 _ (List.mem_append_right _ (List.mem_singleton.2 rfl)), h3⟩
        rcases h2 e he with h | h
        · rcases List.mem_append.1 h with h | h
          · exact .inl h
          · rw [List.mem_singleton] at h; subst h; exact .inr ⟨.inl rfl, hk⟩
        · exact .inr ⟨.inr h.1, h.2⟩
    · rw [if_neg hk] at hf
      split at hf
      · obtain ⟨h1, h2, h3⟩ := fit_mem X Y w w' hl hf
        exact ⟨h1, fun e he => (h2 e he).imp id fun h => ⟨.inr h.1, h.2⟩, fun k => absurd k hk, h3⟩
      · cases hf
theorem fit_cat : ∀ (X1 Y1 X2 Y2 : List Th) (w : Way), X1.length = Y1.length → fitL w (X1 ++ X2) (Y1 ++ Y2) = (fitL w X1 Y1).bind fun v => fitL v X2 Y2
  | [], [], X2, Y2, w, h => by simp [fitL]
  | [], y :: Y, X2, Y2, w, h => by cases h
  | x :: X, [], X2, Y2, w, h => by cases h
  | x :: X, y :: Y, X2, Y2, w, h => by
    have hl : X.length = Y.length := by simpa using h
    simp only [List.cons_append, fitL]
    split
    · split
      · split
        · exact fit_cat X Y X2 Y2 w hl
        · rfl
      · exact fit_cat X Y X2 Y2 _ hl
    · split
      · exact fit_cat X Y X2 Y2 w hl
      · rfl
theorem again_sem : ∀ (A B : List Pt) (to fr : Way), A.length = B.length → ∀ to', againA to fr A B = some to' ↔ allZ samePt A B = true ∧ (∃ fr', fitL fr (B.flatMap (·.things)) (A.flatMap (·.things)) = some fr') ∧ fitL to (A.flatMap (·.things)) (B.flatMap (·.things)) = some to'
  | [], [], to, fr, h, to' => by simp [againA, fitL, allZ]
  | [], y :: Y, to, fr, h, to' => by cases h
  | x :: X, [], to, fr, h, to' => by cases h
  | x :: X, y :: Y, to, fr, h, to' => by
    have hl : X.length = Y.length := by simpa using h
    simp only [againA, fitP, allZ, List.flatMap_cons]
    have hsy : samePt y x = samePt x y := by
      simp only [samePt, eq_comm]
    rw [hsy]
    by_cases hs : samePt x y = true
    · have hlen : x.things.length = y.things.length := by
        simp only [samePt, Bool.and_eq_true, decide_eq_true_eq] at hs; exact hs.2
      rw [fit_cat _ _ _ _ to hlen, fit_cat _ _ _ _ fr hlen.symm]
      simp only [hs, if_true, Bool.true_and]
      cases h1 : fitL to x.things y.things with
      | none => simp
      | some t =>
        cases h2 : fitL fr y.things x.things with
        | none => simp
        | some f => simp only [Option.bind_some]; exact again_sem X Y t f hl to'
    · simp [hs]
theorem thP_cat : ∀ (a b : List Tm) (n : Nat), thP (a ++ b) n = thP a n ++ thP b (thN a n)
  | [], b, n => rfl
  | t :: a, b, n => by
    simp only [List.cons_append, thP, thN]
    split
    · rw [thP_cat a b]; rfl
    · rw [thP_cat a b]; rfl
theorem flat_things : ∀ (ls : List Lt) (n : Nat), (flatB ls n).flatMap (·.things) = thP (ls.flatMap termsL) n
  | [], n => rfl
  | l :: ls, n => by
    simp only [flatB, List.flatMap_cons, thP_cat, partL]
    rw [flat_things ls]
/-! ### The program's numbering of names -/
def named2 (p : Tm × Tm) : Prop := plainV p.1 p.2 = false
structure InvM (t : NM) (i : Nat) : Prop where
  lo : ∀ s, 0 ≤ getM t s ∧ getM t s ≤ i
  inj : ∀ s s', getM t s ≠ 0 → getM t s = getM t s' → s = s'
theorem getM_set (m : NM) (s k : ByteArray) (v : Int) : getM (setM m s v) k = if k = s then v else getM m k := by
  induction m with
  | nil => simp [setM, getM]
  | cons p r ih =>
    obtain ⟨a, w⟩ := p
    simp only [setM]
    by_cases h : s = a
    · simp only [if_pos h, getM]
      by_cases hk : k = s
      · rw [if_pos hk, if_pos hk]
      · rw [if_neg hk, if_neg hk, if_neg (by rw [← h]; exact hk)]
    · simp only [if_neg h, getM]
      by_cases hk : k = a
      · rw [if_pos hk, if_pos hk, if_neg (by rw [hk]; exact fun e => h e.symm)]
      · rw [if_neg hk, if_neg hk, ih]
theorem InvM.set {t : NM} {i : Nat} (h : InvM t i) (s : ByteArray) (hs : getM t s = 0) : InvM (setM t s ((i + 1 : Nat) : Int)) (i + 1) := by
  refine ⟨fun k => ?_, fun k k' => ?_⟩
  · rw [getM_set]
    have := h.lo k
    split <;> omega
  · rw [getM_set, getM_set]
    have h1 := h.lo k
    have h2 := h.lo k'
    by_cases e1 : k = s <;> by_cases e2 : k' = s
    · intro _ _; rw [e1, e2]
    · rw [if_pos e1, if_neg e2]; intro _ e; omega
    · rw [if_neg e1, if_pos e2]; intro _ e; omega
    · rw [if_neg e1, if_neg e2]; exact h.inj k k'
theorem InvM.up {t : NM} {i : Nat} (h : InvM t i) : InvM t (i + 1) := ⟨fun k => by have := h.lo k; omega, h.inj⟩
theorem agA_sem : ∀ (X Y : List Tm) (t b : NM) (i : Nat), InvM t i → InvM b i → X.length = Y.length →
    (agA t b X Y i = true ↔ (∀ p ∈ X.zip Y, (plainV p.1 p.2 = true → bareE p.1 p.2 = true) ∧ (named2 p → getM t p.1.text = getM b p.2.text)) ∧ ∀ p ∈ X.zip Y, ∀ q ∈ X.zip Y, named2 p → named2 q → (p.1.text = q.1.text ↔ p.2.text = q.2.text))
  | [], Y, t, b, i, ht, hb, h => by simp [agA]
  | x :: X, [], t, b, i, ht, hb, h => by cases h
  | x :: X, y :: Y, t, b, i, ht, hb, h => by
    have hl : X.length = Y.length := by simpa using h
    simp only [agA, List.zip_cons_cons, List.forall_mem_cons]
    by_cases hp : plainV x y = true
    · have hn : ¬ named2 (x, y) := by unfold named2; simp [hp]
      simp only [if_pos hp]
      by_cases hb' : bareE x y = true
      · rw [if_pos hb', agA_sem X Y t b (i + 1) ht.up hb.up hl]
        constructor
        · rintro ⟨h1, h2⟩
          exact ⟨⟨⟨fun _ => hb', fun k => absurd k hn⟩, h1⟩, ⟨⟨fun k => absurd k hn, fun q hq k => absurd k hn⟩, fun p hp => ⟨fun _ k => absurd k hn, h2 p hp⟩⟩⟩
        · rintro ⟨⟨_, h1⟩, ⟨_, h2⟩⟩
          exact ⟨h1, fun p hp => (h2 p hp).2⟩
      · rw [if_neg hb']
        constructor
        · intro h; cases h
        · rintro ⟨⟨⟨h1, _⟩, _⟩, _⟩; exact absurd (h1 hp) hb'
    · have hn : named2 (x, y) := by unfold named2; simpa using hp
      rw [if_neg hp]
      by_cases he : getM t x.text = getM b y.text
      · rw [if_pos he]
        by_cases hz : getM t x.text = 0
        · rw [if_pos hz, agA_sem X Y _ _ (i + 1) (ht.set _ hz) (hb.set _ (by rw [← he]; exact hz)) hl]
          have key : ∀ p : Tm × Tm, (getM (setM t x.text ((i + 1 : Nat) : Int)) p.1.text = getM (setM b y.text ((i + 1 : Nat) : Int)) p.2.text ↔ getM t p.1.text = getM b p.2.text ∧ (p.1.text = x.text ↔ p.2.text = y.text)) := by
            intro p
            rw [getM_set, getM_set]
            have h1 := ht.lo p.1.text
            have h2 := hb.lo p.2.text
            by_cases e1 : p.1.text = x.text <;> by_cases e2 : p.2.text = y.text
            · rw [if_pos e1, if_pos e2]
              refine ⟨fun _ => ⟨?_, ⟨fun _ => e2, fun _ => e1⟩⟩, fun _ => rfl⟩
              rw [e1, e2]; exact he
            · rw [if_pos e1, if_neg e2]
              exact ⟨fun h => by omega, fun h => absurd (h.2.1 e1) e2⟩
            · rw [if_neg e1, if_pos e2]
              exact ⟨fun h => by omega, fun h => absurd (h.2.2 e2) e1⟩
            · rw [if_neg e1, if_neg e2]
              exact ⟨fun h => ⟨h, ⟨fun k => absurd k e1, fun k => absurd k e2⟩⟩, fun h => h.1⟩
          constructor
          · rintro ⟨h1, h2⟩
            refine ⟨⟨⟨fun k => absurd k hp, fun _ => he⟩, fun p hp' => ⟨(h1 p hp').1, fun k => ((key p).1 ((h1 p hp').2 k)).1⟩⟩, ⟨⟨fun _ _ => trivial, fun q hq _ k => ?_⟩, fun p hp' => ⟨fun k _ => ((key p).1 ((h1 p hp').2 k)).2, h2 p hp'⟩⟩⟩
            have := ((key q).1 ((h1 q hq).2 k)).2
            exact ⟨fun e => (this.1 e.symm).symm, fun e => (this.2 e.symm).symm⟩
          · rintro ⟨⟨_, h1⟩, ⟨_, h2⟩⟩
            exact ⟨fun p hp' => ⟨(h1 p hp').1, fun k => (key p).2 ⟨(h1 p hp').2 k, (h2 p hp').1 k hn⟩⟩, fun p hp' => (h2 p hp').2⟩
        · rw [if_neg hz, agA_sem X Y _ _ (i + 1) ht.up hb.up hl]
          have key : ∀ p : Tm × Tm, getM t p.1.text = getM b p.2.text → (p.1.text = x.text ↔ p.2.text = y.text) := by
            intro p e
            constructor
            · intro k; exact (hb.inj y.text p.2.text (by rw [← he]; exact hz) (by rw [← he, ← k]; exact e)).symm
            · intro k; exact (ht.inj x.text p.1.text hz (by rw [he, ← k]; exact e.symm)).symm
          constructor
          · rintro ⟨h1, h2⟩
            refine ⟨⟨⟨fun k => absurd k hp, fun _ => he⟩, h1⟩, ⟨⟨fun _ _ => trivial, fun q hq _ k => ?_⟩, fun p hp' => ⟨fun k _ => key p ((h1 p hp').2 k), h2 p hp'⟩⟩⟩
            have := key q ((h1 q hq).2 k)
            exact ⟨fun e => (this.1 e.symm).symm, fun e => (this.2 e.symm).symm⟩
          · rintro ⟨⟨_, h1⟩, ⟨_, h2⟩⟩
            exact ⟨h1, fun p hp' => (h2 p hp').2⟩
      · rw [if_neg he]
        constructor
        · intro h; cases h
        · rintro ⟨⟨⟨_, h1⟩, _⟩, _⟩; exact absurd (h1 hn) he
end Go.Proofs.YtjchgncgkhofhaaGreat.AL
/- The plain law, fifth part: both say the same of twins; the two looks are one. -/
set_option linter.unusedVariables false
namespace Go.Proofs.YtjchgncgkhofhaaGreat.AL
open Go
theorem zip_sw {α β : Type} : ∀ (X : List α) (Y : List β) (p : α × β), p ∈ X.zip Y → (p.2, p.1) ∈ Y.zip X
  | [], Y, p, h => by simp at h
  | x :: X, [], p, h => by simp at h
  | x :: X, y :: Y, p, h => by
    simp only [List.zip_cons_cons, List.mem_cons] at h ⊢
    rcases h with rfl | h
    · exact .inl rfl
    · exact .inr (zip_sw X Y p h)
theorem anon_kind {t : Tm} (h : anon t = true) : t.kind = 4 ∧ t.text = usB := by
  unfold anon isVar at h; simpa using h
theorem th_pairs : ∀ (ts us : List Tm) (n : Nat), (∀ p ∈ ts.zip us, plainV p.1 p.2 = true → bareE p.1 p.2 = true) →
    ∀ p ∈ (thP ts n).zip (thP us n), (∃ q ∈ ts.zip us, named2 q ∧ q.1.kind = 4 ∧ q.2.kind = 4 ∧ p = (thingT q.1, thingT q.2)) ∨ (p.1 = p.2 ∧ (p.1.kind = 4 → p.1.own > 0))
  | [], us, n, h, p, hp => by simp [thP] at hp
  | t :: ts, [], n, h, p, hp => by simp [thP] at hp
  | t :: ts, u :: us, n, h, p, hp => by
    simp only [List.zip_cons_cons, List.forall_mem_cons] at h
    have go : ∀ m, p ∈ (thP ts m).zip (thP us m) → (∃ q ∈ (t :: ts).zip (u :: us), named2 q ∧ q.1.kind = 4 ∧ q.2.kind = 4 ∧ p = (thingT q.1, thingT q.2)) ∨ (p.1 = p.2 ∧ (p.1.kind = 4 → p.1.own > 0)) := by
      intro m hm
      rcases th_pairs ts us m h.2 p hm with ⟨q, hq, h1⟩ | h1
      · exact .inl ⟨q, by rw [List.zip_cons_cons]; exact List.mem_cons_of_mem _ hq, h1⟩
      · exact .inr h1
    by_cases hn : plainV t u = true
    · have hb := h.1 hn
      simp only [bareE, Bool.and_eq_true, decide_eq_true_eq] at hb
      obtain ⟨e1, e2, e3⟩ := hb
      have ea : anon t = anon u := by unfold anon isVar; rw [e1, e3]
      by_cases ha : anon t = true
      · have ha2 : anon u = true := by rw [← ea]; exact ha
        simp only [thP, if_pos ha, if_pos ha2, List.zip_cons_cons, List.mem_cons] at hp
        rcases hp with rfl | hp
        · right
          refine ⟨by simp only [e1, e2, e3], fun _ => ?_⟩
          show ((n + 1 : Nat) : Int) > 0; omega
        · exact go (n + 1) hp
      · have ha2 : ¬ anon u = true := by rw [← ea]; exact ha
        simp only [thP, if_neg ha, if_neg ha2, List.zip_cons_cons, List.mem_cons] at hp
        rcases hp with rfl | hp
        · right
          refine ⟨by simp only [e1, e2, e3], fun hk => ?_⟩
          have hk : t.kind = 4 := hk
          exfalso
          unfold plainV isVar at hn
          have hk2 : u.kind = 4 := by rw [← e1]; exact hk
          simp [hk, hk2, ha, ha2] at hn
        · exact go n hp
    · have hn' : named2 (t, u) := by unfold named2; simpa using hn
      have hv : t.kind = 4 ∧ u.kind = 4 ∧ ¬ anon t = true ∧ ¬ anon u = true := by
        have := hn'
        unfold named2 plainV isVar at this
        simp at this
        exact ⟨this.1.1.1, this.1.1.2, by simp [this.1.2], by simp [this.2]⟩
      obtain ⟨k1, k2, ha, ha2⟩ := hv
      simp only [thP, if_neg ha, if_neg ha2, List.zip_cons_cons, List.mem_cons] at hp
      rcases hp with rfl | hp
      · exact .inl ⟨(t, u), by rw [List.zip_cons_cons]; exact List.mem_cons_self .., hn', k1, k2, rfl⟩
      · exact go n hp
theorem th_back : ∀ (ts us : List Tm) (n m : Nat), ∀ q ∈ ts.zip us, ∃ p ∈ (thP ts n).zip (thP us m),
    p.1.kind = q.1.kind ∧ p.1.num = q.1.num ∧ p.1.text = q.1.text ∧ p.2.kind = q.2.kind ∧ p.2.num = q.2.num ∧ p.2.text = q.2.text ∧ (p.1.own > 0 ↔ anon q.1 = true) ∧ (p.2.own > 0 ↔ anon q.2 = true) ∧ (anon q.1 = false → p.1 = thingT q.1) ∧ (anon q.2 = false → p.2 = thingT q.2)
  | [], us, n, m, q, hq => by simp at hq
  | t :: ts, [], n, m, q, hq => by simp at hq
  | t :: ts, u :: us, n, m, q, hq => by
    simp only [List.zip_cons_cons, List.mem_cons] at hq
    simp only [thP]
    rcases hq with rfl | hq
    · by_cases ha : anon t = true <;> by_cases hb : anon u = true
      · simp only [if_pos ha, if_pos hb, List.zip_cons_cons]
        exact ⟨_, List.mem_cons_self .., rfl, rfl, rfl, rfl, rfl, rfl, ⟨fun _ => ha, fun _ => by show ((n + 1 : Nat) : Int) > 0; omega⟩, ⟨fun _ => hb, fun _ => by show ((m + 1 : Nat) : Int) > 0; omega⟩, fun h => absurd ha (by simp [h]), fun h => absurd hb (by simp [h])⟩
      · simp only [if_pos ha, if_neg hb, List.zip_cons_cons]
        exact ⟨_, List.mem_cons_self .., rfl, rfl, rfl, rfl, rfl, rfl, ⟨fun _ => ha, fun _ => by show ((n + 1 : Nat) : Int) > 0; omega⟩, ⟨fun h => absurd h (by show ¬ (0 : Int) > 0; omega), fun h => absurd h hb⟩, fun h => absurd ha (by simp [h]), fun h => rfl⟩
      · simp only [if_neg ha, if_pos hb, List.zip_cons_cons]
        exact ⟨_, List.mem_cons_self .., rfl, rfl, rfl, rfl, rfl, rfl, ⟨fun h => absurd h (by show ¬ (0 : Int) > 0; omega), fun h => absurd h ha⟩, ⟨fun _ => hb, fun _ => by show ((m + 1 : Nat) : Int) > 0; omega⟩, fun h => rfl, fun h => absurd hb (by simp [h])⟩
      · simp only [if_neg ha, if_neg hb, List.zip_cons_cons]
        exact ⟨_, List.mem_cons_self .., rfl, rfl, rfl, rfl, rfl, rfl, ⟨fun h => absurd h (by show ¬ (0 : Int) > 0; omega), fun h => absurd h ha⟩, ⟨fun h => absurd h (by show ¬ (0 : Int) > 0; omega), fun h => absurd h hb⟩, fun h => rfl, fun h => rfl⟩
    · by_cases ha : anon t = true <;> by_cases hb : anon u = true
      · simp only [if_pos ha, if_pos hb, List.zip_cons_cons]
        obtain ⟨p, hp, h⟩ := th_back ts us (n + 1) (m + 1) q hq
        exact ⟨p, List.mem_cons_of_mem _ hp, h⟩
      · simp only [if_pos ha, if_neg hb, List.zip_cons_cons]
        obtain ⟨p, hp, h⟩ := th_back ts us (n + 1) m q hq
        exact ⟨p, List.mem_cons_of_mem _ hp, h⟩
      · simp only [if_neg ha, if_pos hb, List.zip_cons_cons]
        obtain ⟨p, hp, h⟩ := th_back ts us n (m + 1) q hq
        exact ⟨p, List.mem_cons_of_mem _ hp, h⟩
      · simp only [if_neg ha, if_neg hb, List.zip_cons_cons]
        obtain ⟨p, hp, h⟩ := th_back ts us n m q hq
        exact ⟨p, List.mem_cons_of_mem _ hp, h⟩
theorem thing_eq {t u : Tm} (h1 : termP t = 0) (h2 : termP u = 0) (k1 : t.kind = 4) (k2 : u.kind = 4) : thingT t = thingT u ↔ t.text = u.text := by
  unfold thingT
  simp [k1, k2, term_num h1 k1, term_num h2 k2]
theorem half_fit (ts us : List Tm) (hl : ts.length = us.length) (h1 : ∀ t ∈ ts, termP t = 0) (h2 : ∀ t ∈ us, termP t = 0) (hP : ∀ p ∈ ts.zip us, plainV p.1 p.2 = true → bareE p.1 p.2 = true)
    (hN : ∀ p ∈ ts.zip us, ∀ q ∈ ts.zip us, named2 p → named2 q → p.1.text = q.1.text → p.2.text = q.2.text) : ∃ w', fitL [] (thP ts 0) (thP us 0) = some w' := by
  rw [fit_pairs _ _ _ (by rw [thP_len, thP_len, hl])]
  have hc := th_pairs ts us 0 hP
  refine ⟨fun p hp => ⟨fun hk => ?_, fun _ z hz => (by cases hz)⟩, fun p hp q hq hk e => ?_⟩
  · rcases hc p hp with ⟨r, _, _, k, _, rfl⟩ | ⟨h, _⟩
    · exact absurd k hk
    · exact h
  · rcases hc p hp with ⟨r, hr, nr, k1, k2, rfl⟩ | ⟨e1, o1⟩
    · rcases hc q hq with ⟨s, hs, ns, k3, k4, rfl⟩ | ⟨e2, o2⟩
      · have hr1 := List.of_mem_zip hr
        have hs1 := List.of_mem_zip hs
        exact (thing_eq (h2 _ hr1.2) (h2 _ hs1.2) k2 k4).2 (hN r hr s hs nr ns ((thing_eq (h1 _ hr1.1) (h1 _ hs1.1) k1 k3).1 e))
      · have := o2 (by rw [← e]; exact k1)
        rw [← e] at this
        exact absurd this (by show ¬ (0 : Int) > 0; omega)
    · rcases hc q hq with ⟨s, hs, ns, k3, k4, rfl⟩ | ⟨e2, o2⟩
      · have := o1 hk
        rw [e] at this
        exact absurd this (by show ¬ (0 : Int) > 0; omega)
      · rw [← e1, ← e2]; exact e
theorem plainV_sw (x y : Tm) : plainV y x = plainV x y := by
  unfold plainV
  cases isVar x <;> cases isVar y <;> cases anon x <;> cases anon y <;> rfl
theorem bareE_sw (x y : Tm) : bareE y x = bareE x y := by
  unfold bareE
  simp only [eq_comm]
theorem names_sem (ts us : List Tm) (hl : ts.length = us.length) (h1 : ∀ t ∈ ts, termP t = 0) (h2 : ∀ t ∈ us, termP t = 0) :
    (∃ fr, fitL [] (thP us 0) (thP ts 0) = some fr) ∧ (∃ to, fitL [] (thP ts 0) (thP us 0) = some to ∧ to.all pairOk = true) ↔ agA [] [] ts us 0 = true := by
  have i0 : InvM [] 0 := ⟨fun s => by simp [getM], fun s s' h => by simp [getM] at h⟩
  rw [agA_sem ts us [] [] 0 i0 i0 hl]
  have hXY : (thP ts 0).length = (thP us 0).length := by rw [thP_len, thP_len, hl]
  constructor
  · rintro ⟨hf, to, ht, hok⟩
    have a1 := (fit_pairs _ _ _ hXY).1 ⟨to, ht⟩
    have a2 := (fit_pairs _ _ _ hXY.symm).1 hf
    have a3 := (fit_mem _ _ _ _ hXY ht).2.2
    rw [List.all_eq_true] at hok
    have hC : ∀ p ∈ (thP ts 0).zip (thP us 0), p.1.kind = 4 → p.2.kind = 4 ∧ (p.1.own > 0 ↔ p.2.own > 0) := fun p hp hk => by
      have := hok p (a3 p hp hk)
      simp only [pairOk, Bool.and_eq_true, decide_eq_true_eq, beq_iff_eq, decide_eq_decide] at this
      exact this
    have hNk : ∀ q : Tm × Tm, named2 q → q.1.kind = 4 ∧ q.2.kind = 4 ∧ anon q.1 = false ∧ anon q.2 = false := fun q h => by
      unfold named2 plainV isVar at h
      simp at h
      exact ⟨h.1.1.1, h.1.1.2, h.1.2, h.2⟩
    refine ⟨fun q hq => ⟨fun hp => ?_, fun _ => by simp [getM]⟩, fun q hq r hr nq nr => ?_⟩
    · obtain ⟨p, hpm, b1, b2, b3, b4, b5, b6, b7, b8, b9, b10⟩ := th_back ts us 0 0 q hq
      have hz := List.of_mem_zip hq
      by_cases hk : q.1.kind = 4
      · obtain ⟨c1, c2⟩ := hC p hpm (by rw [b1]; exact hk)
        have hk2 : q.2.kind = 4 := by rw [← b4]; exact c1
        rw [b7, b8] at c2
        have ha : anon q.1 = true := by
          unfold plainV isVar at hp
          simp [hk, hk2] at hp
          rcases hp with hp | hp
          · exact hp
          · exact c2.2 hp
        have hb := c2.1 ha
        simp [bareE, hk, hk2, term_num (h1 _ hz.1) hk, term_num (h2 _ hz.2) hk2, (anon_kind ha).2, (anon_kind hb).2]
      · have e := (a1.1 p hpm).1 (by rw [b1]; exact hk)
        simp [bareE, ← b1, ← b2, ← b3, ← b4, ← b5, ← b6, e]
    · obtain ⟨p, hpm, _, _, _, _, _, _, _, _, b9, b10⟩ := th_back ts us 0 0 q hq
      obtain ⟨s, hsm, _, _, _, _, _, _, _, _, d9, d10⟩ := th_back ts us 0 0 r hr
      obtain ⟨k1, k2, n1, n2⟩ := hNk q nq
      obtain ⟨k3, k4, n3, n4⟩ := hNk r nr
      have hz := List.of_mem_zip hq
      have hy := List.of_mem_zip hr
      have e1 := b9 n1; have e2 := b10 n2; have e3 := d9 n3; have e4 := d10 n4
      constructor
      · intro e
        have := a1.2 p hpm s hsm (by rw [e1]; exact k1) (by rw [e1, e3]; exact (thing_eq (h1 _ hz.1) (h1 _ hy.1) k1 k3).2 e)
        rw [e2, e4] at this
        exact (thing_eq (h2 _ hz.2) (h2 _ hy.2) k2 k4).1 this
      · intro e
        have := a2.2 _ (zip_sw _ _ _ hpm) _ (zip_sw _ _ _ hsm) (by rw [e2]; exact k2) (by show p.2 = s.2; rw [e2, e4]; exact (thing_eq (h2 _ hz.2) (h2 _ hy.2) k2 k4).2 e)
        have this : p.1 = s.1 := this
        rw [e1, e3] at this
        exact (thing_eq (h1 _ hz.1) (h1 _ hy.1) k1 k3).1 this
  · rintro ⟨hA, hB⟩
    have hP := fun p hp => (hA p hp).1
    have hfw := half_fit ts us hl h1 h2 hP fun p hp q hq np nq => (hB p hp q hq np nq).1
    have hsw : ∀ p ∈ us.zip ts, (p.2, p.1) ∈ ts.zip us := fun p hp => zip_sw _ _ p hp
    have hbw := half_fit us ts hl.symm h2 h1 (fun p hp => by rw [← plainV_sw, ← bareE_sw]; exact hP _ (hsw p hp)) fun p hp q hq np nq =>
      (hB _ (hsw p hp) _ (hsw q hq) (by unfold named2 at np ⊢; rw [← plainV_sw]; exact np) (by unfold named2 at nq ⊢; rw [← plainV_sw]; exact nq)).2
    obtain ⟨to, ht⟩ := hfw
    refine ⟨hbw, to, ht, ?_⟩
    rw [List.all_eq_true]
    intro e he
    rcases (fit_mem _ _ _ _ hXY ht).2.1 e he with h | ⟨hm, hk⟩
    · cases h
    · rcases th_pairs ts us 0 hP e hm with ⟨q, _, _, k1, k2, rfl⟩ | ⟨e1, _⟩
      · simp [pairOk, thingT, k2]
      · simp [pairOk, ← e1, hk]
theorem allZ_same : ∀ (la lb : List Lt) (n m : Nat), (∀ l ∈ la, litP l = 0) → (∀ l ∈ lb, litP l = 0) → allZ samePt (flatB la n) (flatB lb m) = allZ alikeL la lb
  | [], lb, n, m, _, _ => by simp [flatB, allZ]
  | l :: la, [], n, m, _, _ => by simp [flatB, allZ]
  | l :: la, k :: lb, n, m, h1, h2 => by
    simp only [flatB, allZ]
    rw [samePt_eq (h1 l (List.mem_cons_self ..)) (h2 k (List.mem_cons_self ..)), allZ_same la lb _ _ (fun x hx => h1 x (List.mem_cons_of_mem _ hx)) fun x hx => h2 x (List.mem_cons_of_mem _ hx)]
theorem allT_zero {c : Cl} (h : Gd c) : ∀ t ∈ allT c, termP t = 0 := by
  intro t ht
  rcases List.mem_append.1 ht with h1 | h1
  · exact (atom_zero (clause_zero h.1).1).2.2 t h1
  · obtain ⟨l, hl, h2⟩ := List.mem_flatMap.1 h1
    exact lit_terms ((clause_zero h.1).2.2 l hl) t h2
theorem flat_all (c : Cl) : (flatP c).flatMap (·.things) = thP (allT c) 0 := by
  rw [flatP_eq, List.flatMap_cons]
  unfold allT bodyP
  rw [thP_cat, flat_things]
  rfl
theorem ag_eq {a b : Cl} (ha : Gd a) (hb : Gd b) : agP a b = agL a b := by
  have la := (clause_zero ha.1).2.2
  have lb := (clause_zero hb.1).2.2
  rw [Bool.eq_iff_iff]
  unfold agP agL eqF
  simp only [Bool.and_eq_true, decide_eq_true_eq, flatP_len]
  have hsame : samePt (headP a) (headP b) = true ↔ a.head.pred = b.head.pred ∧ a.head.args.length = b.head.args.length := by
    simp only [samePt, headP, thP_len, Bool.and_eq_true, decide_eq_true_eq, true_and, and_true]
    exact ⟨fun h => ⟨of_decide_eq_true h.1, h.2⟩, fun h => ⟨decide_eq_true h.1, h.2⟩⟩
  have hZ : allZ samePt (flatP a) (flatP b) = true ↔ (a.head.pred = b.head.pred ∧ a.head.args.length = b.head.args.length) ∧ allZ alikeL a.body b.body = true := by
    rw [flatP_eq, flatP_eq]
    simp only [allZ, Bool.and_eq_true]
    rw [hsame]
    unfold bodyP
    rw [allZ_same _ _ _ _ la lb]
  have hT : ∀ (hlen : a.body.length = b.body.length) (hz : (a.head.pred = b.head.pred ∧ a.head.args.length = b.head.args.length) ∧ allZ alikeL a.body b.body = true), (allT a).length = (allT b).length := by
    intro hlen hz
    unfold allT
    rw [List.length_append, List.length_append, hz.1.2, allZ_len _ _ hlen hz.2]
  constructor
  · rintro ⟨hlen, h⟩
    have hlen : a.body.length = b.body.length := by omega
    cases hag : againA [] [] (flatP a) (flatP b) with
    | none => rw [hag] at h; cases h
    | some to =>
      rw [hag] at h
      rw [again_sem _ _ _ _ (by rw [flatP_len, flatP_len, hlen]), flat_all, flat_all] at hag
      obtain ⟨h1, h2, h3⟩ := hag
      have hz := hZ.1 h1
      have := (names_sem _ _ (hT hlen hz) (allT_zero ha) (allT_zero hb)).1 ⟨h2, to, h3, h⟩
      exact ⟨⟨hz.1, hlen, hz.2⟩, this⟩
  · rintro ⟨⟨hh, hlen, hz⟩, hag⟩
    refine ⟨by omega, ?_⟩
    have hz' := And.intro hh hz
    obtain ⟨h2, to, h3, h⟩ := (names_sem _ _ (hT hlen hz') (allT_zero ha) (allT_zero hb)).2 hag
    have : againA [] [] (flatP a) (flatP b) = some to := by
      rw [again_sem _ _ _ _ (by rw [flatP_len, flatP_len, hlen]), flat_all, flat_all]
      exact ⟨hZ.2 hz', h2, h3⟩
    rw [this]
    exact h
theorem agA_sw : ∀ (X Y : List Tm) (t b : NM) (i : Nat), agA b t Y X i = agA t b X Y i
  | [], [], t, b, i => rfl
  | [], y :: Y, t, b, i => rfl
  | x :: X, [], t, b, i => rfl
  | x :: X, y :: Y, t, b, i => by
    simp only [agA]
    rw [plainV_sw, bareE_sw, agA_sw X Y t b, agA_sw X Y (setM t _ _) (setM b _ _)]
    by_cases h : getM t x.text = getM b y.text
    · simp only [h, if_true]
    · simp only [if_neg h, if_neg fun e => h (Eq.symm e)]
theorem alikeL_sw (a b : Lt) : alikeL b a = alikeL a b := by
  unfold alikeL
  simp only [eq_comm]
theorem allZ_sw : ∀ (X Y : List Lt), allZ alikeL Y X = allZ alikeL X Y
  | [], [] => rfl
  | [], y :: Y => rfl
  | x :: X, [] => rfl
  | x :: X, y :: Y => by simp only [allZ]; rw [alikeL_sw, allZ_sw X Y]
theorem agL_sw (a b : Cl) : agL b a = agL a b := by
  unfold agL eqF
  rw [agA_sw, allZ_sw]
  simp only [eq_comm]
/-! ### The two looks -/
theorem idxP_congr {α : Type} {f g : α → Bool} : ∀ (l : List α) (i : Nat), (∀ x ∈ l, f x = g x) → idxP f l i = idxP g l i
  | [], i, h => rfl
  | x :: l, i, h => by
    simp only [idxP]
    rw [h x (List.mem_cons_self ..), idxP_congr l _ fun y hy => h y (List.mem_cons_of_mem _ hy)]
theorem idxN_congr {α : Type} {f g : Nat → α → Bool} : ∀ (l : List α) (i : Nat), (∀ j, ∀ x ∈ l, f j x = g j x) → idxN f l i = idxN g l i
  | [], i, h => rfl
  | x :: l, i, h => by
    simp only [idxN]
    rw [h i x (List.mem_cons_self ..), idxN_congr l _ fun j y hy => h j y (List.mem_cons_of_mem _ hy)]
theorem flatMap_congr' {α β : Type} {f g : α → List β} : ∀ (l : List α), (∀ x ∈ l, f x = g x) → l.flatMap f = l.flatMap g
  | [], h => rfl
  | x :: l, h => by
    rw [List.flatMap_cons, List.flatMap_cons, h x (List.mem_cons_self ..), flatMap_congr' l fun y hy => h y (List.mem_cons_of_mem _ hy)]
theorem lookG_congr {f g : Nat → Cl → List Fd} : ∀ (l : List Cl) (i : Nat), (∀ j, ∀ x ∈ l, f j x = g j x) → lookG f l i = lookG g l i
  | [], i, h => rfl
  | x :: l, i, h => by
    simp only [lookG]
    rw [h i x (List.mem_cons_self ..), lookG_congr l _ fun j y hy => h j y (List.mem_cons_of_mem _ hy)]
theorem look_eq (p : List Cl) (hw : wellP p = 0) (hr : ∀ c ∈ p, clauseR c) : lookR p = lookL p := by
  have hg : ∀ c ∈ p, Gd c := fun c hc => ⟨(well_zero hw).2 c hc, hr c hc⟩
  unfold lookR lookL
  refine lookG_congr p 0 fun i c hc => ?_
  have hb := (clause_zero (hg c hc).1).2.2
  unfold findR findL
  have e1 : twP p i c = twL p i c := by
    unfold twP twL
    exact idxP_congr _ _ fun d hd => by rw [ag_eq (hg c hc) (hg d (List.mem_of_mem_take hd)), agL_sw]
  have e2 : cvP p i c = cvL p i c := by
    unfold cvP cvL
    refine idxN_congr _ _ fun j d hd => ?_
    unfold cvF cvFL
    rw [cov_eq (hg d hd) (hg c hc), cov_eq (hg c hc) (hg d hd)]
    have : covL d c = true → d.head.pred = c.head.pred := by
      unfold covL
      simp only [Bool.and_eq_true, decide_eq_true_eq]
      exact fun h => h.2.1
    cases hcv : covL d c with
    | false => simp
    | true => simp [this hcv]
  have e3 : idxP (faultR c.body) c.body 0 = idxP (faultL c.body) c.body 0 := idxP_congr _ _ fun l hl => fault_eq (hb l hl)
  unfold findG
  rw [e1, e2, e3]
  have e4 : c.body.flatMap (idlF i fun l => decide (verdP l > 0)) = c.body.flatMap (idlF i fun l => (cmpdP l).1) := flatMap_congr' _ fun l hl => by
    unfold idlF
    simp only [(verd_cmpd (hb l hl)).1]
  rw [e4]
end Go.Proofs.YtjchgncgkhofhaaGreat.AL
/- The program's functions in abstract words: edictlaw18: two programs that are the same. -/
set_option linter.unusedVariables false
namespace Go.Proofs.YtjchgncgkhofhaaGreat.AL
open Go
attribute [local irreducible] PlainFn CallOk

set_option maxHeartbeats 1000000 in
theorem ok28 (a : At) (hl : a.args.length ≤ 9223372036854775807) : POk 28 [aA a, aA a] (.sc (.bool true)) := by
  refine fn_ok mixed (En_ok _ _ _ _) (pl := fun _ => (List.range 11).map Pl.one) (fn := Go.Proofs.Tryz.f28) (c := _) (by kernel_rfl) rfl (by decide) (by kernel_rfl) (E := E0) ?_
  conv => whnf
  split
  · rename_i e
    have e : (!decide (a.pred = a.pred)) = true := e
    simp at e
  conv => whnf
  split
  · rename_i e
    have e : (!decide (a.off = a.off)) = true := e
    simp at e
  conv => whnf
  split
  · rename_i e
    have e : (!decide ((a.args.length : Int) = a.args.length)) = true := e
    simp at e
  conv => whnf
  refine ⟨{ i : Nat // i ≤ a.args.length }, fun i => St [(2, .pp (.loc 2) 0), (3, .pp (.loc 3) 0), (5, .sc (.int .i64 i.1))] [(2, .cells 0 (cA a)), (3, .cells 0 (cA a))] [], fun i => a.args.length - i.1, ⟨0, Nat.zero_le _⟩, ?_, ?_⟩
  · exact wk_of ⟨avle_refl _, avle_refl _, avle_refl _, trivial⟩ ⟨oble_refl _, oble_refl _, trivial⟩ rfl ⟨trivial, trivial, trivial, trivial⟩
  rintro ⟨i, hi⟩
  conv => whnf
  split
  · rename_i hlt
    have hlt : i < a.args.length := by simpa using hlt
    have hwrap : IntKind.i64.wrap ((i : Int) + 1) = ((i + 1 : Nat) : Int) := (wrap_small _ (by omega) (by omega)).trans (by omega)
    have htk := take_cells (g := cT) (n := 4) (fun _ => rfl) a.args i hlt
    have hir : (0 : Int) ≤ (i : Int) ∧ (i : Int) < a.args.length := ⟨Int.natCast_nonneg _, Int.ofNat_lt.2 hlt⟩
    generalize a.args[i] = t at htk
    conv => whnf
    refine And.intro (by kernel_rfl) ?_
    conv => whnf
    refine ⟨hir, _, htk, ?_⟩
    conv => whnf
    refine ⟨hir, _, htk, ?_⟩
    conv => whnf
    split
    · rename_i e
      have e : (!(decide (t.kind = t.kind) && (decide (t.num = t.num) && (decide (t.text = t.text) && decide (t.off = t.off))))) = true := e
      simp at e
    conv => whnf
    exact ⟨⟨i + 1, hlt⟩, wk_of ⟨avle_refl _, avle_refl _, avle_int hwrap, trivial⟩ ⟨oble_refl _, oble_refl _, trivial⟩ rfl ⟨trivial, trivial, trivial, trivial⟩, Nat.sub_lt_sub_left hlt (Nat.lt_succ_self i)⟩
  · conv => whnf
    exact ⟨rfl, rfl⟩
set_option maxHeartbeats 2000000 in
theorem ok29 (l : List Lt) (hl : l.length ≤ 9223372036854775807) (hb : ∀ m ∈ l, m.atom.args.length ≤ 9223372036854775807) : POk 29 [vL l, vL l] (.sc (.bool true)) := by
  refine fn_ok mixed (En_ok _ _ _ _) (pl := fun _ => []) (fn := Go.Proofs.Tryz.f29) (c := _) (by kernel_rfl) rfl (by decide) (by kernel_rfl) (E := E0) ?_
  conv => whnf
  split
  · rename_i e
    have e : (!decide ((l.length : Int) = l.length)) = true := e
    simp at e
  conv => whnf
  refine ⟨{ i : Nat // i ≤ l.length }, fun i => St [(0, vL l), (1, vL l), (5, .sc (.int .i64 i.1))] [] [], fun i => l.length - i.1, ⟨0, Nat.zero_le _⟩, ?_, ?_⟩
  · exact wk_of ⟨avle_refl _, avle_refl _, avle_refl _, trivial⟩ trivial rfl ⟨trivial, trivial, trivial, trivial⟩
  rintro ⟨i, hi⟩
  conv => whnf
  split
  · rename_i hlt
    have hlt : i < l.length := by simpa using hlt
    have hwrap : IntKind.i64.wrap ((i : Int) + 1) = ((i + 1 : Nat) : Int) := (wrap_small _ (by omega) (by omega)).trans (by omega)
    have htk := take_cells (g := cL) (n := 14) (fun _ => rfl) l i hlt
    have hir : (0 : Int) ≤ (i : Int) ∧ (i : Int) < l.length := ⟨Int.natCast_nonneg _, Int.ofNat_lt.2 hlt⟩
    have h28 := ok28 l[i].atom (hb _ (List.getElem_mem hlt))
    generalize l[i] = x at htk h28
    conv => whnf
    refine ⟨hir, _, htk, ?_⟩
    conv => whnf
    refine ⟨hir, _, htk, ?_⟩
    conv => whnf
    split
    · rename_i e
      have e : (!decide (x.kind = x.kind)) = true := e
      simp at e
    conv => whnf
    split
    · rename_i e
      have e : (!decide (x.op = x.op)) = true := e
      simp at e
    conv => whnf
    split
    · rename_i e
      have e : (!decide (x.off = x.off)) = true := e
      simp at e
    conv => whnf
    split
    · rename_i e
      have e : (!(decide (x.left.kind = x.left.kind) && (decide (x.left.num = x.left.num) && (decide (x.left.text = x.left.text) && decide (x.left.off = x.left.off))))) = true := e
      simp at e
    conv => whnf
    split
    · rename_i e
      have e : (!(decide (x.right.kind = x.right.kind) && (decide (x.right.num = x.right.num) && (decide (x.right.text = x.right.text) && decide (x.right.off = x.right.off))))) = true := e
      simp at e
    conv => whnf
    refine use_pure h28 (nr2 (nr_aA _) (nr_aA _)) ⟨rfl, ?_⟩
    conv => whnf
    exact ⟨⟨i + 1, hlt⟩, wk_of ⟨avle_refl _, avle_refl _, avle_int hwrap, trivial⟩ trivial rfl ⟨trivial, trivial, trivial, trivial⟩, Nat.sub_lt_sub_left hlt (Nat.lt_succ_self i)⟩
  · conv => whnf
    exact ⟨rfl, rfl⟩
set_option maxHeartbeats 2000000 in
theorem ok10 (p : List Cl) (hl : p.length ≤ 9223372036854775807) (hh : ∀ c ∈ p, c.head.args.length ≤ 9223372036854775807 ∧ c.body.length ≤ 9223372036854775807 ∧ ∀ m ∈ c.body, m.atom.args.length ≤ 9223372036854775807) : POk 10 [aP p, aP p] (.sc (.bool true)) := by
  refine fn_ok mixed (En_ok _ _ _ _) (pl := fun _ => (List.range 30).map Pl.one) (fn := Go.Proofs.Tryz.f10) (c := _) (by kernel_rfl) rfl (by decide) (by kernel_rfl) (E := E0) ?_
  conv => whnf
  split
  · rename_i e
    have e : (!decide ((p.length : Int) = p.length)) = true := e
    simp at e
  conv => whnf
  refine ⟨{ i : Nat // i ≤ p.length }, fun i => St [(2, .pp (.loc 2) 0), (3, .pp (.loc 3) 0), (5, .sc (.int .i64 i.1))] [(2, .cells 0 [vC p]), (3, .cells 0 [vC p])] [], fun i => p.length - i.1, ⟨0, Nat.zero_le _⟩, ?_, ?_⟩
  · exact wk_of ⟨avle_refl _, avle_refl _, avle_refl _, trivial⟩ ⟨oble_refl _, oble_refl _, trivial⟩ rfl ⟨trivial, trivial, trivial, trivial⟩
  rintro ⟨i, hi⟩
  conv => whnf
  split
  · rename_i hlt
    have hlt : i < p.length := by simpa using hlt
    have hwrap : IntKind.i64.wrap ((i : Int) + 1) = ((i + 1 : Nat) : Int) := (wrap_small _ (by omega) (by omega)).trans (by omega)
    have htk := take_cells (g := cC) (n := 4) (fun _ => rfl) p i hlt
    have hir : (0 : Int) ≤ (i : Int) ∧ (i : Int) < p.length := ⟨Int.natCast_nonneg _, Int.ofNat_lt.2 hlt⟩
    obtain ⟨q1, q2, q3⟩ := hh p[i] (List.getElem_mem hlt)
    have h28 := ok28 p[i].head q1
    have h29 := ok29 p[i].body q2 q3
    generalize p[i] = x at htk h28 h29
    conv => whnf
    refine And.intro (by kernel_rfl) ?_
    conv => whnf
    refine ⟨hir, _, htk, ?_⟩
    conv => whnf
    refine ⟨hir, _, htk, ?_⟩
    conv => whnf
    refine use_ex h28 (nr2 (nr_aA _) (nr_aA _)) ⟨rfl, ?_⟩
    conv => whnf
    refine ⟨hir, _, htk, ?_⟩
    conv => whnf
    refine ⟨hir, _, htk, ?_⟩
    conv => whnf
    refine use_ex h29 (nr2 (nr_vL _) (nr_vL _)) ⟨rfl, ?_⟩
    conv => whnf
    exact ⟨⟨i + 1, hlt⟩, wk_of ⟨avle_refl _, avle_refl _, avle_int hwrap, trivial⟩ ⟨oble_refl _, oble_refl _, trivial⟩ rfl ⟨trivial, trivial, trivial, trivial⟩, Nat.sub_lt_sub_left hlt (Nat.lt_succ_self i)⟩
  · conv => whnf
    exact ⟨rfl, rfl⟩
end Go.Proofs.YtjchgncgkhofhaaGreat.AL
/- The A-logic: a shared slice that is written no more is told as a slice's value. -/
set_option linter.unusedVariables false
set_option linter.unusedSimpArgs false
namespace Go.Proofs.YtjchgncgkhofhaaGreat.AL
open Go

/-- A slice into object id, read off its cells. -/
def frz0 (id es : Nat) (cs : List AV) : AV → AV
  | .ap (.obj i) cap off len => if i = id ∧ off + len * es ≤ cs.length then .vec false es len (((cs.drop off).take (len * es)).map dm) else .ap (.obj i) cap off len
  | x => x
def frz (id es : Nat) (cs : List AV) : AV → AV
  | .agg l => .agg (l.map (frz0 id es cs))
  | x => frz0 id es cs x

theorem RL_map_dm {c : Wz} : ∀ (xs : List AV) (vs : List Value), RL c xs vs → RL c (xs.map dm) vs
  | [], _, h => h
  | x :: xs, _, h => by
    simp only [RL] at h
    obtain ⟨v, r, rfl, h1, h2⟩ := h
    exact RL_cons.2 ⟨R_dm h1, RL_map_dm xs r h2⟩

theorem R_frz0 {c c' : Wz} (hc : Wz.le c c') (hf : ∀ i v b b', c.H i v b → c.H i v b' → b = b') {id es B : Nat} {cs : List AV} (hH : c.H id 0 B) (hz : RZ c' B 0 (cs.map dm)) {x : AV} {v : Value} (h : R c x v) : R c' (frz0 id es cs x) v := by
  unfold frz0
  split
  · rename_i i cap off len
    split
    · rename_i hi
      obtain ⟨rfl, hl⟩ := hi
      simp only [R] at h
      obtain ⟨b, rfl, h2, h3, h4⟩ := h
      obtain rfl := hf _ _ _ _ h4 hH
      simp only [R]
      refine .inl ⟨_, _, rfl, rfl, h2, h3, ?_, ?_⟩
      · rw [List.length_map, List.length_take, List.length_drop]
        exact Nat.min_eq_left (by omega)
      · have := RZ_take (len * es) _ _ _ (RZ_drop off _ _ _ hz)
        rw [← List.map_drop, ← List.map_take, Nat.zero_add] at this
        exact this
    · exact R_mono hc _ _ h
  · exact R_mono hc _ _ h
theorem RL_frz0 {c c' : Wz} (hc : Wz.le c c') (hf : ∀ i v b b', c.H i v b → c.H i v b' → b = b') {id es B : Nat} {cs : List AV} (hH : c.H id 0 B) (hz : RZ c' B 0 (cs.map dm)) : ∀ (xs : List AV) (vs : List Value), RL c xs vs → RL c' (xs.map (frz0 id es cs)) vs
  | [], _, h => by simpa [RL] using h
  | x :: xs, _, h => by
    simp only [RL] at h
    obtain ⟨v, r, rfl, h1, h2⟩ := h
    exact RL_cons.2 ⟨R_frz0 hc hf hH hz h1, RL_frz0 hc hf hH hz xs r h2⟩
theorem R_frz {c c' : Wz} (hc : Wz.le c c') (hf : ∀ i v b b', c.H i v b → c.H i v b' → b = b') {id es B : Nat} {cs : List AV} (hH : c.H id 0 B) (hz : RZ c' B 0 (cs.map dm)) {x : AV} {v : Value} (h : R c x v) : R c' (frz id es cs x) v := by
  unfold frz
  split
  · simp only [R] at h ⊢
    obtain ⟨vs, rfl, h2⟩ := h
    exact ⟨vs, rfl, RL_frz0 hc hf hH hz _ _ h2⟩
  · exact R_frz0 hc hf hH hz h
theorem frz_vec {id es : Nat} {cs : List AV} {x : AV} {e n : Nat} {c : List AV} (h : frz id es cs x = .vec true e n c) : x = .vec true e n c := by
  unfold frz at h
  split at h
  · cases h
  · unfold frz0 at h
    split at h
    · split at h <;> cases h
    · exact h

/-- Behind a call: the shared slice is written no more. -/
theorem CallOk.freeze {P : Program} {g : FuncId} {args : List AV} {gs : List AObj} {Q Q' : AV → List AObj → Prop} (h : CallOk P g args gs Q)
    (hq : ∀ v gs', Q v gs' → ∃ (id es : Nat) (cs : List AV), gs'[id]? = some (.cells 0 cs) ∧ Q' (frz id es cs v) (gs'.set id .dead)) : CallOk P g args gs Q' := by
  intro w G ow L vs hl hr
  refine (h w G ow L vs hl hr).mono fun e w' ⟨v, av, gs', G', ow', L', h1, h2, h3, h4⟩ => ?_
  obtain ⟨id, es, cs, hid, hq'⟩ := hq _ _ h2
  have hlen : id < gs'.length := (List.getElem?_eq_some_iff.1 hid).1
  have hlk : look (deadM gs') (.obj id) = .cells 0 cs := by simp [look, deadM, List.getD_eq_getElem?_getD, hid]
  have hlk2 : ∀ i, i ≠ id → look (deadM (gs'.set id .dead)) (.obj i) = look (deadM gs') (.obj i) := by
    intro i hi
    simp only [look, deadM, List.getD_eq_getElem?_getD]
    rw [List.getElem?_set_ne (fun e => hi e.symm)]
  have hlk3 : look (deadM (gs'.set id .dead)) (.obj id) = .dead := by simp [look, deadM, List.getD_eq_getElem?_getD, hlen]
  obtain ⟨B, hB, hO, hBs, hBo, hBz⟩ := h3.ob (.obj id) (by rw [hlk]; trivial)
  rw [hlk] at hB hO
  have hH : G'.H id 0 B := hB
  obtain ⟨us, T, hw, hsz, hRL⟩ := hO
  have hw : w'.heap[B]? = some (.cells us T (0, 0)) := hw
  let G2 : Gh := { G' with Z := fun b o => G'.Z b o ∨ (b = B ∧ o < cs.length) }
  have hle : Wz.le (G'.wz w') (G2.wz w') := ⟨fun b o hz => ⟨.inl hz, rfl⟩, fun _ _ _ k => k⟩
  have hFB : ¬ G'.F B := fun hb => by have := (h3.fb B hb).2; rw [hBo] at this; cases this
  have hz2 : RZ (G2.wz w') B 0 (cs.map dm) := by
    refine RZ_of _ (us.toList.take cs.length) _ _ (RL_map_dm _ _ (RL_mono hle _ _ hRL)) (fun i v hi => ?_) (fun i hi => ?_)
    · show w'.cell? _ = _
      unfold World.cell?
      rw [hw]
      have hil : i < cs.length := by have := (List.getElem?_eq_some_iff.1 hi).1; simp at this; omega
      rw [List.getElem?_take, if_pos hil] at hi
      simpa using hi
    · have hil : i < cs.length := by simp at hi; omega
      exact .inr ⟨rfl, by omega⟩
  have hres : R (G2.wz w') (frz id es cs av) v := by
    have := h3.sl 0
    simp only [resF, resV, upd_at] at this
    exact R_frz hle h3.hf hH hz2 (RS_dead this)
  refine ⟨v, _, _, G2, ow', L', h1, hq', { sl := ?_, ob := ?_, so := ?_, co := ?_, zb := ?_, fb := h3.fb, hd := ?_, hf := h3.hf }, ⟨h4.le.trans hle, h4.F, h4.keep, fun b o hb hz => ?_, h4.size, h4.os, h4.output, h4.tape⟩⟩
  · intro t
    by_cases ht : t = 0
    · subst ht; simp only [resF, resV, upd_at]; exact RS_of_R hres
    · simp only [resF, resV, upd_ne _ _ ht]; simp [RS, R]
  · intro l hl'
    cases l with
    | loc d => exact hl'.elim
    | obj i =>
      by_cases hi : i = id
      · subst hi; rw [hlk3] at hl'; exact hl'.elim
      · rw [hlk2 i hi] at hl' ⊢
        obtain ⟨b, k1, k2, k3, k4, k5⟩ := h3.ob (.obj i) hl'
        have hne : b ≠ B := by intro e; subst e; rw [hBo] at k4; injection k4 with k4; injection k4 with k4; injection k4 with k4; exact hi k4.symm
        exact ⟨b, k1, ORel_mono hle rfl _ k2, k3, k4, fun o hz => hz.elim (k5 o) (fun e => hne e.1)⟩
  · intro t
    by_cases ht : t = 0
    · subst ht
      intro e n c a k hx hv
      simp only [resF, resV, upd_at] at hx hv
      obtain ⟨k1, vs1, T1, k2, k3, k4⟩ := h3.so 0 e n c a k (by simp only [resF, upd_at]; exact frz_vec hx) (by simp only [resV, upd_at]; exact hv)
      have hne : a.block ≠ B := by intro e'; rw [e', hBo] at k1; cases k1
      exact ⟨k1, vs1, T1, k2, k3, fun o hz => hz.elim (k4 o) (fun e' => absurd e'.1 hne)⟩
    · simp only [resF, resV, upd_ne _ _ ht]; exact VOk_plain trivial
  · intro l ver cs' b vs1 T1 j x u e1 e2 e3 e4 e5
    cases l with
    | loc d => cases e1
    | obj i =>
      by_cases hi : i = id
      · subst hi; rw [hlk3] at e1; cases e1
      · rw [hlk2 i hi] at e1 e2
        intro e n c a k hx hv
        obtain ⟨k1, vs2, T2, k2, k3, k4⟩ := h3.co (.obj i) ver cs' b vs1 T1 j x u e1 e2 e3 e4 e5 e n c a k hx hv
        have hne : a.block ≠ B := by intro e'; rw [e', hBo] at k1; cases k1
        exact ⟨k1, vs2, T2, k2, k3, fun o hz => hz.elim (k4 o) (fun e' => absurd e'.1 hne)⟩
  · rintro b o (hz | ⟨rfl, _⟩)
    · exact h3.zb b o hz
    · exact hBs
  · intro i u b hh
    have := h3.hd i u b hh
    exact ⟨by show i < (gs'.set id .dead).length; rw [List.length_set]; exact this.1, this.2⟩
  · rcases hz with hz | ⟨rfl, _⟩
    · exact h4.zf b o hb hz
    · exact absurd (by rw [h4.F]; exact hb) hFB
end Go.Proofs.YtjchgncgkhofhaaGreat.AL
/- The program's functions in abstract words: lint.copied: a copy whose list may be written over. -/
set_option linter.unusedVariables false
namespace Go.Proofs.YtjchgncgkhofhaaGreat.AL
open Go
attribute [local irreducible] PlainFn CallOk

/-- The evaluation where these slots are appended to shared slices, these functions change shared objects. -/
noncomputable abbrev E2 (ob : List Nat) (no : List Nat) : Env := En (fun _ => false) (inl ob) (fun _ => false) (fun g => !inl no g)
theorem cellsL_len (l : List Lt) : (l.flatMap cL).length = l.length * 14 := length_cells (g := cL) (n := 14) (fun _ => rfl) l
theorem lay_mid (a b x : List AV) (k : Nat) (hk : a.length = k) : lay (a ++ b) k x = a ++ x ++ b.drop x.length := by
  unfold lay
  subst hk
  rw [List.take_left, List.drop_append, List.drop_of_length_le (by omega), List.nil_append]
  congr 2
  omega
theorem get_last {α : Type} (gs : List α) (x : α) : (gs ++ [x])[gs.length]? = some x := by simp
theorem set_last {α : Type} (gs : List α) (x y : α) : (gs ++ [x]).set gs.length y = gs ++ [y] := by simp
/-- The cells of a literal that was copied. -/
def cL0 (l : Lt) : List AV := [.sc (.int .i64 l.kind), .sc (.string l.atom.pred), .vec false 4 (0 + l.atom.args.length) ([] ++ l.atom.args.flatMap cT), .sc (.int .i64 l.atom.off), .sc (.int .i64 l.op),
  .sc (.int .i64 l.left.kind), .sc (.int .i64 l.left.num), .sc (.string l.left.text), .sc (.int .i64 l.left.off),
  .sc (.int .i64 l.right.kind), .sc (.int .i64 l.right.num), .sc (.string l.right.text), .sc (.int .i64 l.right.off), .sc (.int .i64 l.off)]
theorem cL0_eq (l : Lt) : cL0 l = cL l := by simp [cL0, cL, vT]
/-- A clause whose body lies in shared object id. -/
def aClo (h : At) (id cap len : Nat) : AV := .agg (cA h ++ [.ap (.obj id) cap 0 len])
set_option maxHeartbeats 2000000 in
theorem ok25 (c : Cl) (hs : SzC c) (gs : List AObj) : PlainFn prg 25 ∧ CallOk prg 25 [aCl c] gs fun v gs' => v = aClo c.head gs.length c.body.length c.body.length ∧ gs' = gs ++ [.cells 0 (c.body.flatMap cL)] := by
  obtain ⟨h1, h2, h3⟩ := hs
  refine fn_ok mixed (En_ok _ _ _ _) (pl := fun _ => []) (fn := Go.Proofs.Tryz.f25) (c := _) (by kernel_rfl) rfl (by decide) (by kernel_rfl) (E := E2 [34] []) ?_
  conv => whnf
  refine ⟨⟨by show 0 + c.head.args.length ≤ _; omega, by show (0 + c.head.args.length) * 40 ≤ _; omega, okc_T _⟩, ?_⟩
  conv => whnf
  refine ⟨⟨Int.le_refl _, Int.natCast_nonneg _, by show (c.body.length : Int) * (152 : Nat) ≤ _; omega, by show (c.body.length : Int) ≤ _; omega⟩, ?_⟩
  conv => whnf
  refine ⟨{ p : Nat × List AV // p.1 ≤ c.body.length ∧ p.2.length = (c.body.length - p.1) * 14 }, fun p => St [(1, .pp (.loc 1) 0), (2, .pp (.loc 2) 0), (3, .ap (.obj gs.length) c.body.length 0 p.1.1), (18, vL c.body), (19, .sc (.int .i64 c.body.length)), (20, .sc (.int .i64 p.1.1))] [(1, .cells 0 [.sc (.string c.head.pred), vT c.head.args, .sc (.int .i64 c.head.off), vL c.body]), (2, .cells 0 [.undef, .undef, .undef, .undef])] (gs ++ [.cells 0 ((c.body.take p.1.1).flatMap cL ++ p.1.2)]), fun p => c.body.length - p.1.1, ⟨(0, zsC c.body.length ((E2 [34] []).T 46 |>.zero.getD [])), Nat.zero_le _, ?_⟩, ?_, ?_⟩
  · show (zsC c.body.length _).length = (c.body.length - 0) * 14
    rw [zsC, List.length_map, Array.length_toList, size_zeroCells]; rfl
  · exact wk_of ⟨avle_refl _, avle_refl _, avle_refl _, avle_refl _, avle_refl _, avle_refl _, trivial⟩ ⟨oble_cells ⟨avle_refl _, avle_vT0 _, avle_refl _, avle_refl _, trivial⟩, oble_cells ⟨avle_undef _, avle_undef _, avle_undef _, avle_undef _, trivial⟩, trivial⟩ rfl ⟨trivial, trivial, trivial, trivial, trivial, trivial, trivial⟩
  rintro ⟨⟨i, rest⟩, hi, hrest⟩
  simp only at hi hrest
  conv => whnf
  split
  · rename_i hlt
    have hlt : i < c.body.length := by simpa using hlt
    have hwrap : IntKind.i64.wrap ((i : Int) + 1) = ((i + 1 : Nat) : Int) := (wrap_small _ (by omega) (by omega)).trans (by omega)
    have htk := take_cells (g := cL) (n := 14) (fun _ => rfl) c.body i hlt
    have hir : (0 : Int) ≤ (i : Int) ∧ (i : Int) < c.body.length := ⟨Int.natCast_nonneg _, Int.ofNat_lt.2 hlt⟩
    have hal := h3 c.body[i] (List.getElem_mem hlt)
    have htm : c.body.take (i + 1) = c.body.take i ++ [c.body[i]] := List.take_succ_eq_append_getElem hlt
    have hln : ((c.body.take i).flatMap cL).length = 0 + i * 14 := by rw [cellsL_len]; simp; omega
    generalize c.body[i] = l at htk hal htm
    have hcl : ∀ x : List AV, ((c.body.take i).flatMap cL ++ cL l) ++ x = (c.body.take (i + 1)).flatMap cL ++ x := by intro x; rw [htm]; simp
    conv => whnf
    refine ⟨hir, _, htk, ?_⟩
    conv => whnf
    refine ⟨⟨by show 0 + l.atom.args.length ≤ _; omega, by show (0 + l.atom.args.length) * 40 ≤ _; omega, okc_T _⟩, ?_⟩
    conv => whnf
    have hgs : (gs ++ [AObj.cells 0 ((c.body.take i).flatMap cL ++ rest)]).set gs.length (.cells 0 (lay ((c.body.take i).flatMap cL ++ rest) (0 + i * 14) (cL0 l))) = gs ++ [.cells 0 ((c.body.take (i + 1)).flatMap cL ++ rest.drop 14)] := by
      rw [set_last, lay_mid _ _ _ _ hln, cL0_eq, hcl]; rfl
    refine ⟨_, get_last _ _, ⟨by decide, hlt, ?_, rfl, rfl⟩, ?_⟩
    · show 0 + i * 14 + 1 * 14 ≤ _
      rw [List.length_append, hln, hrest]; omega
    conv => whnf
    exact ⟨⟨(i + 1, rest.drop 14), hlt, by simp [hrest]; omega⟩, wk_of ⟨avle_refl _, avle_refl _, avle_refl _, avle_refl _, avle_refl _, avle_int hwrap, trivial⟩ ⟨oble_refl _, oble_refl _, trivial⟩ hgs ⟨trivial, trivial, trivial, trivial, trivial, trivial, trivial⟩, Nat.sub_lt_sub_left hlt (Nat.lt_succ_self i)⟩
  · rename_i hlt
    have hlt : c.body.length ≤ i := by simpa using hlt
    have htm : c.body.take i = c.body := List.take_of_length_le hlt
    have hr0 : rest = [] := List.eq_nil_of_length_eq_zero (by rw [hrest]; omega)
    have hie : i = c.body.length := by omega
    subst hr0
    conv => whnf
    refine ⟨?_, ?_⟩
    · show aClo c.head gs.length c.body.length i = _
      rw [hie]
    · rw [htm, List.append_nil]
end Go.Proofs.YtjchgncgkhofhaaGreat.AL
/- The program's functions in abstract words: slices.DeleteFunc over a shared slice. -/
set_option linter.unusedVariables false
namespace Go.Proofs.YtjchgncgkhofhaaGreat.AL
open Go
attribute [local irreducible] PlainFn CallOk

theorem dm_cells (l : List Lt) : (l.flatMap cL).map dm = l.flatMap cL := by
  rw [List.map_flatMap]
  rfl
theorem frz_list (id cap : Nat) (l : List Lt) (rest : List AV) : frz0 id 14 (l.flatMap cL ++ rest) (.ap (.obj id) cap 0 l.length) = vL l := by
  show (if id = id ∧ 0 + l.length * 14 ≤ (l.flatMap cL ++ rest).length then AV.vec false 14 l.length ((((l.flatMap cL ++ rest).drop 0).take (l.length * 14)).map dm) else _) = _
  rw [if_pos ⟨rfl, by rw [List.length_append, cellsL_len]; omega⟩, List.drop_zero, ← cellsL_len, List.take_left, dm_cells]
  rfl
/-- The copy, frozen. -/
theorem ok25p (c : Cl) (hs : SzC c) : POk 25 [aCl c] (aCl c) := by
  obtain ⟨h1, h2⟩ := ok25 c hs []
  refine ⟨h1, h2.freeze fun v gs' ⟨e1, e2⟩ => ⟨0, 14, c.body.flatMap cL, by rw [e2]; rfl, ?_⟩⟩
  have : frz 0 14 (c.body.flatMap cL) v = aCl c := by
    rw [e1]
    show AV.agg [_, _, _, frz0 0 14 (c.body.flatMap cL) (.ap (.obj 0) c.body.length 0 c.body.length)] = _
    have h3 := frz_list 0 c.body.length c.body []
    rw [List.append_nil] at h3
    rw [h3]; rfl
  rw [this]
  exact ⟨nr_aCl c, rfl⟩
theorem ok27 (l : Lt) : POk 27 [aL l] (.sc (.bool (cmpdP l).1)) := by
  refine fn_ok mixed (En_ok _ _ _ _) (pl := fun _ => []) (fn := Go.Proofs.Tryz.f27) (c := _) (by kernel_rfl) rfl (by decide) (by kernel_rfl) (E := E0) ?_
  conv => whnf
  refine use_pure (ok23 l) (nr1 (nr_aL _)) ⟨rfl, ?_⟩
  conv => whnf
  exact ⟨rfl, rfl⟩
/-- A struct is loaded out of cells that are told. -/
theorem ldc_of {E : Env} {t : Nat} {cs : List AV} {off n : Nat} {c : List AV} {K : AV → Prop} (hs : (E.T t).size = n) (hn : n ≠ 0) (ha : isAgg E t = true) (hl : off + n ≤ cs.length) (hc : (cs.drop off).take n = c) (hk : K (.agg (c.map dm))) : ldc E t cs off K := by
  unfold ldc
  rw [hs, if_neg hn, if_pos ha, if_pos hl, frcN_eq, hc]
  exact hk
theorem ok42a (ls : List Lt) (hls : ls.length ≤ 9223372036854775807) (g : Nat) (f : Lt → Bool) (hg : ∀ t, POk g [aL t] (.sc (.bool (f t)))) (gs : List AObj) (id cap : Nat) (hgs : gs[id]? = some (.cells 0 (ls.flatMap cL))) :
    PlainFn prg 42 ∧ CallOk prg 42 [.ap (.obj id) cap 0 ls.length, .fn (.func g) [] []] gs fun v gs' => v = .sc (.int .i64 (idxP f ls 0)) ∧ gs' = gs := by
  refine fn_ok mixed (En_ok _ _ _ _) (pl := fun _ => []) (fn := Go.Proofs.Tryz.f42) (c := _) (by kernel_rfl) rfl (by decide) (by kernel_rfl) (E := E0) ?_
  conv => whnf
  refine ⟨{ i : Nat // idxP f ls 0 = idxP f (ls.drop i) i }, fun i => St [(0, .ap (.obj id) cap 0 ls.length), (1, .fn (.func g) [] []), (6, .ap (.obj id) cap 0 ls.length), (7, .sc (.int .i64 ls.length)), (8, .sc (.int .i64 i.1))] [] gs, fun i => ls.length - i.1, ⟨0, rfl⟩, ?_, ?_⟩
  · exact wk_of ⟨avle_refl _, avle_refl _, avle_refl _, avle_refl _, avle_refl _, trivial⟩ trivial rfl ⟨trivial, trivial, trivial, trivial, trivial, trivial⟩
  rintro ⟨i, hinv⟩
  conv => whnf
  split
  · rename_i hlt
    have hlt : i < ls.length := by simpa using hlt
    have hwrap : IntKind.i64.wrap ((i : Int) + 1) = ((i + 1 : Nat) : Int) := (wrap_small _ (by omega) (by omega)).trans (by omega)
    rw [idx_drop _ ls i hlt] at hinv
    have htk := take_cells (g := cL) (n := 14) (fun _ => rfl) ls i hlt
    have hir : (0 : Int) ≤ (i : Int) ∧ (i : Int) < ls.length := ⟨Int.natCast_nonneg _, Int.ofNat_lt.2 hlt⟩
    have hle : 0 + i * 14 + 14 ≤ (ls.flatMap cL).length := by rw [cellsL_len]; omega
    have hg' := hg ls[i]
    generalize ls[i] = m at hinv htk hg'
    have htk2 : ((ls.flatMap cL).drop (0 + i * 14)).take 14 = cL m := by rw [Nat.zero_add]; exact htk
    conv => whnf
    refine ⟨hir, ?_⟩
    conv => whnf
    refine ⟨_, hgs, ldc_of rfl (by decide) rfl hle htk2 ?_⟩
    conv => whnf
    refine use_pure hg' (nr1 (nr_aL _)) ⟨rfl, ?_⟩
    conv => whnf
    split
    · rename_i e
      have e : f m = true := e
      conv => whnf
      exact ⟨avi (hinv.trans (if_pos e)).symm, rfl⟩
    rename_i e
    have e : f m = false := e
    rw [if_neg (by rw [e]; decide)] at hinv
    conv => whnf
    exact ⟨⟨i + 1, hinv⟩, wk_of ⟨avle_refl _, avle_refl _, avle_refl _, avle_refl _, avle_int hwrap, trivial⟩ trivial rfl ⟨trivial, trivial, trivial, trivial, trivial, trivial⟩, Nat.sub_lt_sub_left hlt (Nat.lt_succ_self i)⟩
  · rename_i hlt
    have hlt : ls.length ≤ i := by simpa using hlt
    conv => whnf
    refine ⟨?_, rfl⟩
    rw [hinv, List.drop_of_length_le hlt]; rfl
end Go.Proofs.YtjchgncgkhofhaaGreat.AL
