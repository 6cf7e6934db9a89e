/- The A-logic: objects that are made and written, slices that are made and appended to. -/
import Derived.Test.YtjchgncgkhofhaaGreatM0
import Derived.Laws.Sem
import Derived.Laws.Entries
import Derived.Laws.Cells
import Derived.Laws.Rows
import Derived.Laws.Slices
set_option linter.unusedVariables false
set_option linter.unusedSimpArgs false
namespace Go.Proofs.YtjchgncgkhofhaaGreat.AL
open Go

def setLook (m : Mem) (l : Loc) (o : AObj) : Mem :=
  match l with
  | .loc d => { m with bx := upd m.bx d o }
  | .obj id => { m with gs := m.gs.set id o }

theorem look_setLook (m : Mem) (l : Loc) (o : AObj) (hl : alive (look m l)) (l' : Loc) : look (setLook m l o) l' = if l' = l then o else look m l' := by
  cases l with
  | loc d => cases l' with
    | loc d' => by_cases h : d' = d <;> simp [setLook, look, upd, h]
    | obj id => simp [setLook, look]
  | obj id => cases l' with
    | loc d' => simp [setLook, look]
    | obj id' =>
      have hid : id < m.gs.length := by
        rcases Nat.lt_or_ge id m.gs.length with h | h
        · exact h
        · simp [look, List.getD_eq_getElem?_getD, List.getElem?_eq_none h, alive] at hl
      by_cases h : id' = id
      · subst h; simp [setLook, look, List.getD_eq_getElem?_getD, hid]
      · simp only [setLook, look, List.getD_eq_getElem?_getD]
        rw [List.getElem?_set_ne (fun e => h e.symm), if_neg (by intro e; injection e with e; exact h e)]

def sameKind : AObj → AObj → Prop
  | .cells v _, .cells v' _ => v = v'
  | .map _, .map _ => True
  | _, _ => False
theorem Blk_kind {L : Nat → Nat} {H : Nat → Nat → Nat → Prop} {l : Loc} {o o' : AObj} {b : Nat} (hk : sameKind o o') : Blk L H l o b ↔ Blk L H l o' b := by
  cases l with
  | loc d => exact Iff.rfl
  | obj id => cases o <;> cases o' <;> simp_all [sameKind, Blk]
theorem alive_kind {o o' : AObj} (hk : sameKind o o') : alive o' := by cases o <;> cases o' <;> simp_all [sameKind, alive]
theorem alive_kind' {o o' : AObj} (hk : sameKind o o') : alive o := by cases o <;> cases o' <;> simp_all [sameKind, alive]

section
variable {m : Mem} {S : Nat → AV} {V : Nat → Value} {w : World} {L : Nat → Nat} {G : Gh} {ow : Nat → Option Pos}

theorem Blk_fun (h : HRel m S V w L G ow) {l : Loc} {o : AObj} {b b' : Nat} (hb : Blk L G.H l o b) (hb' : Blk L G.H l o b') : b = b' := by
  cases l with
  | loc d => simp only [Blk] at hb hb'; rw [hb, hb']
  | obj id => cases o with
    | dead => exact hb.elim
    | cells v _ => exact h.hf _ _ _ _ hb hb'
    | map _ => exact h.hf _ _ _ _ hb hb'

theorem RS_bx {c : Wz} {bx bx' : Nat → AObj} (hb : ∀ d, alive (bx d) → sameKind (bx d) (bx' d)) {x : AV} {v : Value} (h : RS c bx L x v) : RS c bx' L x v := by
  match x, h with
  | .pp (.loc d) _, h =>
    obtain ⟨⟨ver, cs, h1⟩, h2⟩ := h
    have := hb d (by rw [h1]; trivial)
    rw [h1] at this
    cases hd : bx' d with
    | cells v' cs' => exact ⟨⟨v', cs', hd⟩, h2⟩
    | dead => rw [hd] at this; exact this.elim
    | map _ => rw [hd] at this; exact this.elim
  | .mp (.loc d), h =>
    obtain ⟨⟨es, h1⟩, h2⟩ := h
    have := hb d (by rw [h1]; trivial)
    rw [h1] at this
    cases hd : bx' d with
    | map es' => exact ⟨⟨es', hd⟩, h2⟩
    | dead => rw [hd] at this; exact this.elim
    | cells _ _ => rw [hd] at this; exact this.elim
  | .ap (.loc _) _ _ _, h => exact h
  | .pp (.obj _) _, h => exact h
  | .mp (.obj _), h => exact h
  | .ap (.obj _) _ _ _, h => exact h
  | .undef, h => exact h
  | .sc _, h => exact h
  | .vec _ _ _ _, h => exact h
  | .agg _, h => exact h
  | .tup _, h => exact h
  | .fn _ _ _, h => exact h
  | .ifc _ _, h => exact h
  | .cp _ _, h => exact h

theorem sameKind_refl {o : AObj} (h : alive o) : sameKind o o := by cases o <;> simp_all [sameKind, alive]

/-- An object gets another content in its block. -/
theorem HRel.putObj (h : HRel m S V w L G ow) {l : Loc} {o' : AObj} {b : Nat} {w' : World} (hk : sameKind (look m l) o') (hb : Blk L G.H l (look m l) b)
    (hw : ∀ c, c ≠ b → w'.heap[c]? = w.heap[c]?) (hsz : w'.heap.size = w.heap.size) (hos : w'.os = w.os) (hou : w'.output = w.output) (hta : w'.tape = w.tape)
    (ho : Wz.le (G.wz w) (G.wz w') → ORel (G.wz w') b o')
    (hc : ∀ (ver : Nat) (cs : List AV) (vs : Array Value) (T : TypeId) (j : Nat) (x : AV) (v : Value), o' = .cells ver cs → w'.heap[b]? = some (.cells vs T (0, 0)) → cs[j]? = some x → vs[j]? = some v → (notFl x ∨ ∀ a n k, v ≠ .slice (some a) n k) ∨
      ∃ (ver' : Nat) (cs' : List AV) (vs' : Array Value) (T' : TypeId), look m l = .cells ver' cs' ∧ w.heap[b]? = some (.cells vs' T' (0, 0)) ∧ cs'[j]? = some x ∧ vs'[j]? = some v) :
    HRel (setLook m l o') S V w' L G ow ∧ Ext w G w' G := by
  have hal := alive_kind' hk
  obtain ⟨b0, hb0, hor, hbs, how, hnz⟩ := h.ob l hal
  obtain rfl := Blk_fun h hb hb0
  have hle : Wz.le (G.wz w) (G.wz w') := ⟨fun c o hz => ⟨hz, by
    show w'.cell? ⟨c, o, none⟩ = w.cell? ⟨c, o, none⟩
    unfold World.cell?
    rw [hw c (by intro e; subst e; exact hnz o hz)]⟩, fun _ _ _ k => k⟩
  have hvk : ∀ p x v, p ≠ .blk l → VOk w G.Z ow p x v → VOk w' G.Z ow p x v := by
    intro p x v hp hv e n cs a k hx hv'
    obtain ⟨k1, vs, T, k2, k3⟩ := hv e n cs a k hx hv'
    have : a.block ≠ b := by intro e; rw [e, how] at k1; injection k1 with k1; exact hp k1.symm
    exact ⟨k1, vs, T, (hw _ this).trans k2, k3⟩
  have hlk := look_setLook m l o' hal
  refine ⟨{ sl := ?_, ob := ?_, so := ?_, co := ?_, zb := ?_, fb := ?_, hd := ?_, hf := h.hf }, ⟨hle, rfl, ?_, fun _ _ _ k => k, by omega, hos, hou, hta⟩⟩
  · intro t
    refine RS_bx (fun d hd => ?_) (RS_mono hle (h.sl t))
    have := hlk (.loc d)
    simp only [look] at this
    rw [this]
    split
    · rename_i e; subst e; exact hk
    · exact sameKind_refl hd
  · intro l' hl'
    rw [hlk l'] at hl' ⊢
    by_cases e : l' = l
    · subst e
      rw [if_pos rfl] at hl' ⊢
      exact ⟨b, (Blk_kind hk).1 hb, ho hle, by omega, how, hnz⟩
    · rw [if_neg e] at hl' ⊢
      obtain ⟨b', h1, h2, h3, h4, h5⟩ := h.ob l' hl'
      have hne : b' ≠ b := by intro x; subst x; rw [how] at h4; injection h4 with h4; injection h4 with h4; exact e h4.symm
      exact ⟨b', h1, ORel_mono hle (hw b' hne) _ h2, by omega, h4, h5⟩
  · exact fun t => hvk _ _ _ (by simp) (h.so t)
  · intro l' ver cs b' vs T j x v h1 h2 h3 h4 h5
    rw [hlk l'] at h1 h2
    by_cases e : l' = l
    · subst e
      rw [if_pos rfl] at h1 h2
      have : b' = b := Blk_fun h h2 ((Blk_kind hk).1 hb)
      subst this
      rcases hc ver cs vs T j x v h1 h3 h4 h5 with k | ⟨ver', cs', vs', T', k1, k2, k3, k4⟩
      · rcases k with k | k
        · exact VOk_plain k
        · exact fun e n c a kk _ hv => absurd hv (k _ _ _)
      · exact hvk _ _ _ (by simp) (h.co l' ver' cs' b' vs' T' j x v k1 hb k2 k3 k4)
    · rw [if_neg e] at h1 h2
      have hal' : alive (look m l') := by rw [h1]; trivial
      obtain ⟨b'', k1, _, _, k4, _⟩ := h.ob l' hal'
      obtain rfl := Blk_fun h h2 k1
      have hne : b' ≠ b := by intro x; subst x; rw [how] at k4; injection k4 with k4; injection k4 with k4; exact e k4.symm
      rw [hw b' hne] at h3
      exact hvk _ _ _ (by simp) (h.co l' ver cs b' vs T j x v h1 h2 h3 h4 h5)
  · exact fun c o k => by rw [hsz]; exact h.zb c o k
  · exact fun c k => by rw [hsz]; exact h.fb c k
  · intro i v c k
    have := h.hd i v c k
    refine ⟨?_, by omega⟩
    cases l <;> simp [setLook] <;> exact this.1
  · intro c hc'
    exact hw c (by intro e; subst e; have := (h.fb _ hc').2; rw [how] at this; simp at this)

theorem killV_id {c : Wz} {bx : Nat → AObj} {d : Nat} {x : AV} {v : Value} (h : RS c bx L x v) (hd : bx d = .dead) : killV d x = x := by
  match x, h with
  | .pp (.loc p) _, h =>
    obtain ⟨⟨ver, cs, h1⟩, _⟩ := h
    by_cases e : p = d
    · subst e; rw [hd] at h1; cases h1
    · simp [killV, e]
  | .mp (.loc p), h =>
    obtain ⟨⟨es, h1⟩, _⟩ := h
    by_cases e : p = d
    · subst e; rw [hd] at h1; cases h1
    · simp [killV, e]
  | .ap (.loc _) _ _ _, h => exact h.elim
  | .pp (.obj _) _, _ => rfl
  | .mp (.obj _), _ => rfl
  | .ap (.obj _) _ _ _, _ => rfl
  | .undef, _ => rfl
  | .sc _, _ => rfl
  | .vec _ _ _ _, _ => rfl
  | .agg _, _ => rfl
  | .tup _, _ => rfl
  | .fn _ _ _, _ => rfl
  | .ifc _ _, _ => rfl
  | .cp _ _, _ => rfl
theorem killF_id (h : HRel m S V w L G ow) {d : Nat} (hd : m.bx d = .dead) : killF d S = S := funext fun t => killV_id (h.sl t) hd
theorem killV_vec {d : Nat} {x : AV} {o : Bool} {e n : Nat} {cs : List AV} (h : killV d x = .vec o e n cs) : x = .vec o e n cs := by
  unfold killV at h
  split at h
  · split at h <;> cases h
  · split at h <;> cases h
  · split at h <;> cases h
  · exact h
/-- What points nowhere into box d does not see that it is made anew. -/
theorem RS_kill {c : Wz} {bx : Nat → AObj} {d b : Nat} {o : AObj} {x : AV} {v : Value} (h : RS c bx L x v) : RS c (upd bx d o) (upd L d b) (killV d x) v := by
  match x, h with
  | .pp (.loc p) _, h =>
    by_cases e : p = d
    · subst e; simp [killV, RS, R]
    · simp only [killV, if_neg e, RS, upd_ne _ _ e]; exact h
  | .mp (.loc p), h =>
    by_cases e : p = d
    · subst e; simp [killV, RS, R]
    · simp only [killV, if_neg e, RS, upd_ne _ _ e]; exact h
  | .ap (.loc _) _ _ _, h => exact h.elim
  | .pp (.obj _) _, h => exact h
  | .mp (.obj _), h => exact h
  | .ap (.obj _) _ _ _, h => exact h
  | .undef, h => exact h
  | .sc _, h => exact h
  | .vec _ _ _ _, h => exact h
  | .agg _, h => exact h
  | .tup _, h => exact h
  | .fn _ _ _, h => exact h
  | .ifc _ _, h => exact h
  | .cp _ _, h => exact h

theorem killV_RS {c : Wz} {bx : Nat → AObj} {d : Nat} {x : AV} {v : Value} (h : RS c bx L x v) : RS c bx L (killV d x) v := by
  match x, h with
  | .pp (.loc p) _, h =>
    by_cases e : p = d
    · subst e; simp [killV, RS, R]
    · simp only [killV, if_neg e]; exact h
  | .mp (.loc p), h =>
    by_cases e : p = d
    · subst e; simp [killV, RS, R]
    · simp only [killV, if_neg e]; exact h
  | .ap (.loc _) _ _ _, h => exact h.elim
  | .pp (.obj _) _, h => exact h
  | .mp (.obj _), h => exact h
  | .ap (.obj _) _ _ _, h => exact h
  | .undef, h => exact h
  | .sc _, h => exact h
  | .vec _ _ _ _, h => exact h
  | .agg _, h => exact h
  | .tup _, h => exact h
  | .fn _ _ _, h => exact h
  | .ifc _ _, h => exact h
  | .cp _ _, h => exact h
/-- Who points into a box may be struck. -/
theorem HRel.strike (h : HRel m S V w L G ow) (d : Nat) : HRel m (killF d S) V w L G ow :=
  { h with sl := fun t => killV_RS (h.sl t), so := fun t e n cs a k hx hv => h.so t e n cs a k (killV_vec hx) hv }

/-- A local object is made. -/
theorem HRel.newLoc (h : HRel m S V w L G ow) (d : Nat) {o : AObj} (O : Obj) (ha : alive o) (ho : Wz.le (G.wz w) (G.wz (w.alloc O)) → ORel (G.wz (w.alloc O)) w.heap.size o)
    (hn : ∀ (ver : Nat) (cs : List AV) (j : Nat) (x : AV), o = .cells ver cs → cs[j]? = some x → notFl x) :
    HRel { m with bx := upd m.bx d o } (killF d S) V (w.alloc O) (upd L d w.heap.size) G (upd ow w.heap.size (some (.blk (.loc d)))) := by
  have g := Grow.alloc w O
  have hg := h.grow g
  have hle := g.le h.zb
  have hsz : (w.alloc O).heap.size = w.heap.size + 1 := by show (w.heap.push O).size = _; simp
  have hlk : ∀ l', look { m with bx := upd m.bx d o } l' = if l' = .loc d then o else look m l' := by
    intro l'
    cases l' with
    | loc d' => by_cases e : d' = d <;> simp [look, upd, e]
    | obj id => simp [look]
  have hBlk : ∀ l' b, l' ≠ .loc d → (Blk (upd L d w.heap.size) G.H l' (look m l') b ↔ Blk L G.H l' (look m l') b) := by
    intro l' b hne
    cases l' with
    | loc d' => simp only [Blk]; rw [upd_ne _ _ (by intro e; subst e; exact hne rfl)]
    | obj id => cases look m (.obj id) <;> exact Iff.rfl
  have hlt : ∀ l' b, alive (look m l') → Blk L G.H l' (look m l') b → b < w.heap.size := by
    intro l' b ha' hb
    obtain ⟨b', k1, _, k3, _⟩ := h.ob l' ha'
    rw [Blk_fun h hb k1]; exact k3
  have hvk : ∀ p x v, VOk (w.alloc O) G.Z ow p x v → VOk (w.alloc O) G.Z ow p x v → (∀ e n cs a k, x = .vec true e n cs → v = .slice (some a) n k → a.block ≠ w.heap.size) → VOk (w.alloc O) G.Z (upd ow w.heap.size (some (.blk (.loc d)))) p x v := by
    intro p x v hv _ hne e n cs a k hx hv'
    obtain ⟨k1, k2⟩ := hv e n cs a k hx hv'
    exact ⟨by rw [upd_ne _ _ (hne e n cs a k hx hv')]; exact k1, k2⟩
  refine { sl := ?_, ob := ?_, so := ?_, co := ?_, zb := hg.zb, fb := ?_, hd := hg.hd, hf := h.hf }
  · intro t; exact RS_kill (hg.sl t)
  · intro l' hl'
    rw [hlk l'] at hl' ⊢
    by_cases e : l' = .loc d
    · subst e
      rw [if_pos rfl] at hl' ⊢
      refine ⟨w.heap.size, by simp [Blk, upd_at], ho hle, by omega, upd_at _ _ _, fun o' hz => ?_⟩
      exact absurd (h.zb _ _ hz) (by omega)
    · rw [if_neg e] at hl' ⊢
      obtain ⟨b', h1, h2, h3, h4, h5⟩ := hg.ob l' hl'
      have h1' : b' < w.heap.size := hlt l' b' hl' h1
      exact ⟨b', (hBlk l' b' e).2 h1, h2, h3, by rw [upd_ne _ _ (by omega)]; exact h4, h5⟩
  · intro t e n cs a k hx hv
    have hx' := killV_vec hx
    obtain ⟨k1, vs, T, k2⟩ := h.so t e n cs a k hx' hv
    have hlt' := (Array.getElem?_eq_some_iff.1 k2.1).1
    obtain ⟨k1', k2'⟩ := hg.so t e n cs a k hx' hv
    exact ⟨by rw [upd_ne _ _ (by omega)]; exact k1', k2'⟩
  · intro l' ver cs b vs T j x v h1 h2 h3 h4 h5
    rw [hlk l'] at h1 h2
    by_cases e : l' = .loc d
    · subst e
      rw [if_pos rfl] at h1
      exact VOk_plain (hn ver cs j x h1 h4)
    · rw [if_neg e] at h1 h2
      have h2' := (hBlk l' b e).1 h2
      intro e' n c a k hx hv
      have hal : alive (look m l') := by rw [h1]; trivial
      have hb := hlt l' b hal h2'
      have h3' : w.heap[b]? = some (.cells vs T (0, 0)) := (g.old b hb).symm.trans h3
      obtain ⟨k1, us, T', k2⟩ := h.co l' ver cs b vs T j x v h1 h2' h3' h4 h5 e' n c a k hx hv
      have hlt' := (Array.getElem?_eq_some_iff.1 k2.1).1
      obtain ⟨k1', k2'⟩ := hg.co l' ver cs b vs T j x v h1 h2' h3 h4 h5 e' n c a k hx hv
      exact ⟨by rw [upd_ne _ _ (by omega)]; exact k1', k2'⟩
  · intro b hb
    have := hg.fb b hb
    have h0 := (h.fb b hb).1
    exact ⟨this.1, by rw [upd_ne _ _ (by omega)]; exact this.2⟩

/-- The same where the box was not there: nobody is struck. -/
theorem HRel.newLoc' (h : HRel m S V w L G ow) (d : Nat) {o : AObj} (O : Obj) (hd : m.bx d = .dead) (ha : alive o) (ho : Wz.le (G.wz w) (G.wz (w.alloc O)) → ORel (G.wz (w.alloc O)) w.heap.size o)
    (hn : ∀ (ver : Nat) (cs : List AV) (j : Nat) (x : AV), o = .cells ver cs → cs[j]? = some x → notFl x) :
    HRel { m with bx := upd m.bx d o } S V (w.alloc O) (upd L d w.heap.size) G (upd ow w.heap.size (some (.blk (.loc d)))) := by
  have := h.newLoc d O ha ho hn
  rwa [killF_id h hd] at this

/-- A shared object is made. -/
theorem HRel.newObj (h : HRel m S V w L G ow) {o : AObj} (O : Obj) (ha : alive o) (hv0 : ∀ ver cs, o = .cells ver cs → ver = 0)
    (ho : ∀ c, Wz.le (G.wz w) c → c.w = w.alloc O → ORel c w.heap.size o)
    (hn : ∀ (ver : Nat) (cs : List AV) (j : Nat) (x : AV), o = .cells ver cs → cs[j]? = some x → notFl x) :
    ∃ G' ow', HRel { m with gs := m.gs ++ [o] } S V (w.alloc O) L G' ow' ∧ Ext w G (w.alloc O) G' ∧ G'.H m.gs.length 0 w.heap.size := by
  have g := Grow.alloc w O
  have hsz : (w.alloc O).heap.size = w.heap.size + 1 := by show (w.heap.push O).size = _; simp
  have hg := h.grow g
  let G' : Gh := { G with H := fun i v b => G.H i v b ∨ (i = m.gs.length ∧ v = 0 ∧ b = w.heap.size) }
  have hle : Wz.le (G.wz (w.alloc O)) (G'.wz (w.alloc O)) := ⟨fun _ _ k => ⟨k, rfl⟩, fun _ _ _ k => .inl k⟩
  have hle0 : Wz.le (G.wz w) (G'.wz (w.alloc O)) := (g.le h.zb).trans hle
  have hlk : ∀ l', look { m with gs := m.gs ++ [o] } l' = if l' = .obj m.gs.length then o else look m l' := by
    intro l'
    cases l' with
    | loc d' => simp [look]
    | obj id =>
      simp only [look, List.getD_eq_getElem?_getD]
      by_cases e : id = m.gs.length
      · subst e; simp
      · rw [if_neg (by intro x; injection x with x; exact e x)]
        rcases Nat.lt_or_ge id m.gs.length with k | k
        · rw [List.getElem?_append_left k]
        · rw [List.getElem?_eq_none (by simp; omega), List.getElem?_eq_none k]
  have hnoH : ∀ v b, ¬ G.H m.gs.length v b := fun v b k => absurd (h.hd _ _ _ k).1 (by omega)
  have hlt : ∀ l' b, alive (look m l') → Blk L G.H l' (look m l') b → b < w.heap.size := by
    intro l' b ha' hb
    obtain ⟨b', k1, _, k3, _⟩ := h.ob l' ha'
    rw [Blk_fun h hb k1]; exact k3
  have hB : ∀ l' b, l' ≠ .obj m.gs.length → (Blk L G'.H l' (look m l') b ↔ Blk L G.H l' (look m l') b) := by
    intro l' b hne
    cases l' with
    | loc d' => exact Iff.rfl
    | obj id =>
      have hid : id ≠ m.gs.length := by intro e; subst e; exact hne rfl
      cases look m (.obj id) with
      | dead => exact Iff.rfl
      | cells v cs => exact ⟨fun k => k.resolve_right (fun k => hid k.1), .inl⟩
      | map es => exact ⟨fun k => k.resolve_right (fun k => hid k.1), .inl⟩
  refine ⟨G', upd ow w.heap.size (some (.blk (.obj m.gs.length))), { sl := ?_, ob := ?_, so := ?_, co := ?_, zb := hg.zb, fb := ?_, hd := ?_, hf := ?_ }, ⟨hle0, rfl, fun b hb => g.old b (h.fb b hb).1, fun _ _ _ k => k, g.size, rfl, rfl, rfl⟩, .inr ⟨rfl, rfl, rfl⟩⟩
  · intro t; exact RS_mono hle (hg.sl t)
  · intro l' hl'
    rw [hlk l'] at hl' ⊢
    by_cases e : l' = .obj m.gs.length
    · subst e
      rw [if_pos rfl] at hl' ⊢
      refine ⟨w.heap.size, ?_, ho _ hle0 rfl, by omega, upd_at _ _ _, fun o' hz => absurd (h.zb _ _ hz) (by omega)⟩
      cases o with
      | dead => exact ha.elim
      | cells v cs => exact .inr ⟨rfl, hv0 v cs rfl, rfl⟩
      | map es => exact .inr ⟨rfl, rfl, rfl⟩
    · rw [if_neg e] at hl' ⊢
      obtain ⟨b', h1, h2, h3, h4, h5⟩ := hg.ob l' hl'
      have h1' : b' < w.heap.size := hlt l' b' hl' h1
      exact ⟨b', (hB l' b' e).2 h1, ORel_mono hle rfl _ h2, h3, by rw [upd_ne _ _ (by omega)]; exact h4, h5⟩
  · intro t e n cs a k hx hv
    obtain ⟨k1, vs, T, k2⟩ := h.so t e n cs a k hx hv
    have hlt' := (Array.getElem?_eq_some_iff.1 k2.1).1
    obtain ⟨k1', k2'⟩ := hg.so t e n cs a k hx hv
    exact ⟨by rw [upd_ne _ _ (by omega)]; exact k1', k2'⟩
  · intro l' ver cs b vs T j x v h1 h2 h3 h4 h5
    rw [hlk l'] at h1 h2
    by_cases e : l' = .obj m.gs.length
    · subst e
      rw [if_pos rfl] at h1
      exact VOk_plain (hn ver cs j x h1 h4)
    · rw [if_neg e] at h1 h2
      have h2' := (hB l' b e).1 h2
      intro e' n c a k hx hv
      have hal : alive (look m l') := by rw [h1]; trivial
      have hb := hlt l' b hal h2'
      have h3' : w.heap[b]? = some (.cells vs T (0, 0)) := (g.old b hb).symm.trans h3
      obtain ⟨k1, us, T', k2⟩ := h.co l' ver cs b vs T j x v h1 h2' h3' h4 h5 e' n c a k hx hv
      have hlt' := (Array.getElem?_eq_some_iff.1 k2.1).1
      obtain ⟨k1', k2'⟩ := hg.co l' ver cs b vs T j x v h1 h2' h3 h4 h5 e' n c a k hx hv
      exact ⟨by rw [upd_ne _ _ (by omega)]; exact k1', k2'⟩
  · intro b hb
    have := hg.fb b hb
    have h0 := (h.fb b hb).1
    exact ⟨this.1, by rw [upd_ne _ _ (by omega)]; exact this.2⟩
  · rintro i v b (k | ⟨rfl, rfl, rfl⟩)
    · have := hg.hd i v b k
      exact ⟨by simp; omega, this.2⟩
    · exact ⟨by simp, by omega⟩
  · rintro i v b b' (k | ⟨rfl, rfl, rfl⟩) (k' | ⟨e1, e2, e3⟩)
    · exact h.hf _ _ _ _ k k'
    · subst e1; exact absurd k (hnoH _ _)
    · exact absurd k' (hnoH _ _)
    · exact e3.symm
end
end Go.Proofs.YtjchgncgkhofhaaGreat.AL
/- The A-logic: slices that are made and appended to; the right to append between slots and cells. -/
set_option linter.unusedVariables false
set_option linter.unusedSimpArgs false
namespace Go.Proofs.YtjchgncgkhofhaaGreat.AL
open Go
section
variable {m : Mem} {S : Nat → AV} {V : Nat → Value} {w : World} {L : Nat → Nat} {G : Gh} {ow : Nat → Option Pos}

/-- More cells of a block that no object lies in are frozen, none that is owned behind a slice's length. -/
theorem HRel.freeze (h : HRel m S V w L G ow) {G' : Gh} (hH : G'.H = G.H) (hF : G'.F = G.F) (B : Nat) (hB : B < w.heap.size)
    (hz : ∀ b o, G.Z b o → G'.Z b o) (hz' : ∀ b o, b ≠ B → (G'.Z b o ↔ G.Z b o)) (hbl : ∀ l, ow B ≠ some (.blk l))
    (hso : ∀ t e n cs a k, S t = .vec true e n cs → V t = .slice (some a) n k → a.block = B → ∀ o, G'.Z B o → o < a.off + n * e)
    (hco : ∀ l j, ow B ≠ some (.cell l j)) : HRel m S V w L G' ow := by
  have hle : Wz.le (G.wz w) (G'.wz w) := ⟨fun b o k => ⟨hz b o k, rfl⟩, fun i v b k => by show G'.H i v b; rw [hH]; exact k⟩
  refine { sl := fun t => RS_mono hle (h.sl t), ob := ?_, so := ?_, co := ?_, zb := ?_, fb := ?_, hd := ?_, hf := ?_ }
  · intro l hl
    obtain ⟨b, h1, h2, h3, h4, h5⟩ := h.ob l hl
    have hne : b ≠ B := by intro e; subst e; exact hbl _ h4
    exact ⟨b, by rw [hH]; exact h1, ORel_mono hle rfl _ h2, h3, h4, fun o k => h5 o ((hz' b o hne).1 k)⟩
  · intro t e n cs a k hx hv
    obtain ⟨k1, vs, T, k2, k3, k4⟩ := h.so t e n cs a k hx hv
    refine ⟨k1, vs, T, k2, k3, fun o ho => ?_⟩
    by_cases e' : a.block = B
    · rw [e'] at ho; exact hso t e n cs a k hx hv e' o ho
    · exact k4 o ((hz' _ _ e').1 ho)
  · intro l ver cs b vs T j x v h1 h2 h3 h4 h5 e n c a k hx hv
    rw [hH] at h2
    obtain ⟨k1, us, T', k2, k3, k4⟩ := h.co l ver cs b vs T j x v h1 h2 h3 h4 h5 e n c a k hx hv
    refine ⟨k1, us, T', k2, k3, fun o ho => ?_⟩
    by_cases e' : a.block = B
    · rw [e'] at k1; exact absurd k1 (hco _ _)
    · exact k4 o ((hz' _ _ e').1 ho)
  · intro b o k
    by_cases e : b = B
    · subst e; exact hB
    · exact h.zb b o ((hz' b o e).1 k)
  · intro b k; rw [hF] at k; exact h.fb b k
  · intro i v b k; rw [hH] at k; exact h.hd i v b k
  · intro i v b b' k k'; rw [hH] at k k'; exact h.hf i v b b' k k'

/-- A slot that gets a value with the right to append, in a block that nobody owns. -/
theorem HRel.setFl (h : HRel m S V w L G ow) (t : Nat) {e n : Nat} {cs : List AV} {a : Addr} {k : Nat} (hx : R (G.wz w) (.vec true e n cs) (.slice (some a) n k))
    (hb : ∀ p, ow a.block = some p → p = .slot t) (hnf : ¬ G.F a.block)
    (hv : ∃ (vs : Array Value) (T : TypeId), w.heap[a.block]? = some (.cells vs T (0, 0)) ∧ a.off + k * e ≤ vs.size ∧ ∀ o, G.Z a.block o → o < a.off + n * e) :
    HRel m (upd S t (.vec true e n cs)) (upd V t (.slice (some a) n k)) w L G (upd ow a.block (some (.slot t))) := by
  refine { h with sl := ?_, ob := ?_, so := ?_, co := ?_, fb := ?_ }
  · intro u
    by_cases ht : u = t
    · subst ht; rw [upd_at, upd_at]; exact hx
    · rw [upd_ne _ _ ht, upd_ne _ _ ht]; exact h.sl u
  · intro l hl
    obtain ⟨b, h1, h2, h3, h4, h5⟩ := h.ob l hl
    have : b ≠ a.block := by intro e; subst e; have := hb _ h4; cases this
    exact ⟨b, h1, h2, h3, by rw [upd_ne _ _ this]; exact h4, h5⟩
  · intro u e' n' cs' a' k' h1 h2
    by_cases ht : u = t
    · subst ht
      rw [upd_at] at h1 h2
      injection h1 with _ e1 e2 e3
      injection h2 with e4 e5 e6
      injection e4 with e4
      subst e1; subst e2; subst e4; subst e6
      obtain ⟨vs, T, hh⟩ := hv
      exact ⟨upd_at _ _ _, vs, T, hh⟩
    · rw [upd_ne _ _ ht] at h1 h2
      obtain ⟨k1, k2⟩ := h.so u e' n' cs' a' k' h1 h2
      have : a'.block ≠ a.block := by intro e; rw [e] at k1; have := hb _ k1; injection this with this; exact ht this
      exact ⟨by rw [upd_ne _ _ this]; exact k1, k2⟩
  · intro l ver cs' b vs' T' j x v h1 h2 h3 h4 h5 e' n' c a' k' h6 h7
    obtain ⟨k1, k2⟩ := h.co l ver cs' b vs' T' j x v h1 h2 h3 h4 h5 e' n' c a' k' h6 h7
    have : a'.block ≠ a.block := by intro e; rw [e] at k1; have := hb _ k1; cases this
    exact ⟨by rw [upd_ne _ _ this]; exact k1, k2⟩
  · intro b k0
    have := h.fb b k0
    refine ⟨this.1, ?_⟩
    have hne : b ≠ a.block := by intro e; subst e; exact hnf k0
    rw [upd_ne _ _ hne]; exact this.2

theorem ow_freshB (h : HRel m S V w L G ow) {w' : World} (g : Grow w w') {B : Nat} (hB : w.heap.size ≤ B) : HRel m S V w' L G (upd ow B none) := by
  have hg := h.grow g
  have hlt : ∀ l' b, alive (look m l') → Blk L G.H l' (look m l') b → b < w.heap.size := by
    intro l' b ha' hb
    obtain ⟨b', k1, _, k3, _⟩ := h.ob l' ha'
    rw [Blk_fun h hb k1]; exact k3
  refine { hg with ob := ?_, so := ?_, co := ?_, fb := ?_ }
  · intro l hl
    obtain ⟨b, h1, h2, h3, h4, h5⟩ := hg.ob l hl
    have := hlt l b hl h1
    exact ⟨b, h1, h2, h3, by rw [upd_ne _ _ (by omega)]; exact h4, h5⟩
  · intro t e n cs a k hx hv
    obtain ⟨k1, vs, T, k2⟩ := h.so t e n cs a k hx hv
    have hlt' := (Array.getElem?_eq_some_iff.1 k2.1).1
    obtain ⟨k1', k2'⟩ := hg.so t e n cs a k hx hv
    exact ⟨by rw [upd_ne _ _ (by omega)]; exact k1', k2'⟩
  · intro l' ver cs b vs T j x v h1 h2 h3 h4 h5 e' n c a k hx hv
    have hal : alive (look m l') := by rw [h1]; trivial
    have hb := hlt l' b hal h2
    have h3' : w.heap[b]? = some (.cells vs T (0, 0)) := (g.old b hb).symm.trans h3
    obtain ⟨k1, us, T', k2⟩ := h.co l' ver cs b vs T j x v h1 h2 h3' h4 h5 e' n c a k hx hv
    have hlt' := (Array.getElem?_eq_some_iff.1 k2.1).1
    obtain ⟨k1', k2'⟩ := hg.co l' ver cs b vs T j x v h1 h2 h3 h4 h5 e' n c a k hx hv
    exact ⟨by rw [upd_ne _ _ (by omega)]; exact k1', k2'⟩
  · intro b hb
    have := hg.fb b hb
    have h0 := (h.fb b hb).1
    exact ⟨this.1, by rw [upd_ne _ _ (by omega)]; exact this.2⟩

theorem ow_fresh (h : HRel m S V w L G ow) {w' : World} (g : Grow w w') : HRel m S V w' L G (upd ow w.heap.size none) := ow_freshB h g (Nat.le_refl _)

/-- A slice in a new row. -/
theorem HRel.freshVec (h : HRel m S V w L G ow) (t : Nat) {e n cap : Nat} {cs : List AV} {vs : Array Value} {T : TypeId}
    (hr : RL (G.wz w) cs (vs.toList.take cs.length)) (hl : cs.length = n * e) (hc : n ≤ cap) (hm : cap ≤ maxLen) (hs : cap * e ≤ vs.size) :
    ∃ G' ow', HRel m (upd S t (.vec true e n cs)) (upd V t (.slice (some ⟨w.heap.size, 0, none⟩) n cap)) (w.alloc (.cells vs T (0, 0))) L G' ow' ∧ Ext w G (w.alloc (.cells vs T (0, 0))) G' := by
  have g := Grow.alloc w (.cells vs T (0, 0))
  have hsz : (w.alloc (.cells vs T (0, 0))).heap.size = w.heap.size + 1 := by show (w.heap.push _).size = _; simp
  have hnew : (w.alloc (.cells vs T (0, 0))).heap[w.heap.size]? = some (.cells vs T (0, 0)) := by show (w.heap.push _)[w.heap.size]? = _; simp
  let G' : Gh := { G with Z := fun b o => G.Z b o ∨ (b = w.heap.size ∧ o < n * e) }
  have h1 := ow_fresh h g
  have h2 : HRel m S V (w.alloc (.cells vs T (0, 0))) L G' (upd ow w.heap.size none) := by
    refine h1.freeze (G' := G') rfl rfl w.heap.size (by omega) (fun _ _ k => .inl k) (fun b o hb => ⟨fun k => k.resolve_right (fun k => hb k.1), .inl⟩) (fun l => by rw [upd_at]; simp) (fun u e' n' cs' a k hx hv ha o ho => ?_) (fun l j => by rw [upd_at]; simp)
    obtain ⟨k1, us, T', k2, _⟩ := h.so u e' n' cs' a k hx hv
    have hlt' := (Array.getElem?_eq_some_iff.1 k2).1
    omega
  have hle : Wz.le (G.wz w) (G'.wz (w.alloc (.cells vs T (0, 0)))) := (g.le h.zb).trans ⟨fun b o k => ⟨.inl k, rfl⟩, fun _ _ _ k => k⟩
  have hnle : n * e ≤ cap * e := Nat.mul_le_mul_right _ hc
  refine ⟨G', _, h2.setFl t (a := ⟨w.heap.size, 0, none⟩) (k := cap) ?_ ?_ ?_ ?_, ⟨hle, rfl, fun b hb => g.old b (h.fb b hb).1, fun b o hb hz => hz.resolve_right (fun x => by have := (h.fb b hb).1; omega), g.size, rfl, rfl, rfl⟩⟩
  · simp only [R]
    refine .inl ⟨⟨w.heap.size, 0, none⟩, cap, rfl, rfl, hc, hm, hl, RZ_of cs _ _ _ (RL_mono hle _ _ hr) (fun i v hv => ?_) (fun i hi => ?_)⟩
    · show (w.alloc (.cells vs T (0, 0))).cell? _ = _
      unfold World.cell?
      simp only [hnew]
      rw [List.getElem?_take] at hv
      split at hv
      · simpa using hv
      · cases hv
    · refine .inr ⟨rfl, ?_⟩
      rw [List.length_take] at hi
      have := Nat.min_le_left cs.length vs.toList.length
      show 0 + i < n * e
      omega
  · intro p hp
    simp only [upd_at] at hp; cases hp
  · intro k; exact absurd (h.fb _ k).1 (Nat.lt_irrefl _)
  · refine ⟨vs, T, hnew, by simpa using hs, fun o ho => ?_⟩
    rcases ho with ho | ho
    · exact absurd (h.zb _ _ ho) (Nat.lt_irrefl _)
    · simpa using ho.2

/-- An append within the row: the cells behind the length are written, and frozen. -/
theorem HRel.growVec (h : HRel m S V w L G ow) (s t : Nat) {e n1 n2 k : Nat} {c1 c2 : List AV} {a : Addr} {us : List Value} {vs : Array Value} {T : TypeId} {w' : World}
    (hs : S s = .vec true e n1 c1) (hv : V s = .slice (some a) n1 k) (hr : RL (G.wz w) c2 us) (hl : c2.length = n2 * e) (hk : n1 + n2 ≤ k)
    (hw0 : w.heap[a.block]? = some (.cells vs T (0, 0)))
    (hw1 : ∃ vs', w'.heap[a.block]? = some (.cells vs' T (0, 0)) ∧ vs'.size = vs.size ∧ (∀ i, i < a.off + n1 * e → vs'[i]? = vs[i]?) ∧ ∀ i v, us[i]? = some v → vs'[a.off + n1 * e + i]? = some v)
    (hw : ∀ c, c ≠ a.block → w'.heap[c]? = w.heap[c]?) (hsz : w'.heap.size = w.heap.size) (hos : w'.os = w.os) (hou : w'.output = w.output) (hta : w'.tape = w.tape) :
    ∃ G' ow', HRel m (upd (upd S s (.vec false e n1 c1)) t (.vec true e (n1 + n2) (c1 ++ c2))) (upd V t (.slice (some a) (n1 + n2) k)) w' L G' ow' ∧ Ext w G w' G' := by
  obtain ⟨ho, vs0, T0, hh0, hh1, hh2⟩ := h.so s e n1 c1 a k hs hv
  rw [hw0] at hh0; injection hh0 with hh0; injection hh0 with e1 e2; subst e1; subst e2
  obtain ⟨vs', hv1, hv2, hv3, hv4⟩ := hw1
  have hsl := h.sl s
  rw [hs, hv] at hsl
  simp only [RS, R] at hsl
  obtain ⟨a', cap', hav, hsp, hle1, hcm, hcl, hrz⟩ := hsl.resolve_right (fun x => by obtain ⟨_, _, A, e, hA⟩ := x; rw [hA trivial] at e; cases e)
  injection hav with hav1 _ hav2; injection hav1 with hav1; subst hav1; subst hav2
  let G' : Gh := { G with Z := fun b o => G.Z b o ∨ (b = a.block ∧ a.off + n1 * e ≤ o ∧ o < a.off + (n1 + n2) * e) }
  have hmul : (n1 + n2) * e = n1 * e + n2 * e := Nat.add_mul _ _ _
  have hkm : (n1 + n2) * e ≤ k * e := Nat.mul_le_mul_right _ hk
  -- the world step keeps what is frozen
  have hle : Wz.le (G.wz w) (G'.wz w') := ⟨fun b o hz => ⟨.inl hz, by
    show w'.cell? ⟨b, o, none⟩ = w.cell? ⟨b, o, none⟩
    unfold World.cell?
    by_cases hb : b = a.block
    · subst hb
      simp only [hv1, hw0]
      exact hv3 o (hh2 o hz)
    · rw [hw b hb]⟩, fun _ _ _ k => k⟩
  have hlt : a.block < w.heap.size := (Array.getElem?_eq_some_iff.1 hw0).1
  have hb0 : ∀ l, ow a.block ≠ some (.blk l) := fun l x => by rw [ho] at x; cases x
  have hfa : ¬ G.F a.block := fun x => by have := (h.fb _ x).2; rw [ho] at this; cases this
  -- in the new world, the slot struck
  have hst : HRel m (upd S s (.vec false e n1 c1)) V w' L G' (upd ow a.block none) := by
    refine { sl := ?_, ob := ?_, so := ?_, co := ?_, zb := ?_, fb := ?_, hd := ?_, hf := h.hf }
    · intro u
      by_cases hu : u = s
      · subst hu; rw [upd_at]
        have := RS_dm (RS_mono hle (h.sl u)); rw [hs] at this; exact this
      · rw [upd_ne _ _ hu]; exact RS_mono hle (h.sl u)
    · intro l hl'
      obtain ⟨b, h1, h2, h3, h4, h5⟩ := h.ob l hl'
      have hne : b ≠ a.block := by intro x; subst x; exact hb0 _ h4
      exact ⟨b, h1, ORel_mono hle (hw b hne) _ h2, by omega, by rw [upd_ne _ _ hne]; exact h4, fun o x => x.elim (h5 o) (fun x => hne x.1)⟩
    · intro u e' n' cs' a' k' hx hv'
      by_cases hu : u = s
      · subst hu; rw [upd_at] at hx; cases hx
      · rw [upd_ne _ _ hu] at hx
        obtain ⟨k1, us', T', k2, k3, k4⟩ := h.so u e' n' cs' a' k' hx hv'
        have hne : a'.block ≠ a.block := by intro x; rw [x, ho] at k1; injection k1 with k1; injection k1 with k1; exact hu k1.symm
        exact ⟨by rw [upd_ne _ _ hne]; exact k1, us', T', (hw _ hne).trans k2, k3, fun o x => x.elim (k4 o) (fun x => absurd x.1 hne)⟩
    · intro l ver cs' b vs1 T' j x v h1 h2 h3 h4 h5 e' n' c a' k' h6 h7
      have hal : alive (look m l) := by rw [h1]; trivial
      obtain ⟨b'', q1, _, _, q4, _⟩ := h.ob l hal
      obtain rfl := Blk_fun h h2 q1
      have hne0 : b ≠ a.block := by intro x; subst x; exact hb0 _ q4
      rw [hw b hne0] at h3
      obtain ⟨k1, us', T'', k2, k3, k4⟩ := h.co l ver cs' b vs1 T' j x v h1 h2 h3 h4 h5 e' n' c a' k' h6 h7
      have hne : a'.block ≠ a.block := by intro x; rw [x, ho] at k1; cases k1
      exact ⟨by rw [upd_ne _ _ hne]; exact k1, us', T'', (hw _ hne).trans k2, k3, fun o x => x.elim (k4 o) (fun x => absurd x.1 hne)⟩
    · rintro b o (x | x)
      · rw [hsz]; exact h.zb b o x
      · rw [hsz, x.1]; exact hlt
    · intro b x
      have q := h.fb b x
      exact ⟨by rw [hsz]; exact q.1, by rw [upd_ne _ _ (by intro y; subst y; exact hfa x)]; exact q.2⟩
    · intro i v b x; rw [hsz]; exact h.hd i v b x
  refine ⟨G', _, hst.setFl t (a := a) (k := k) ?_ ?_ hfa ?_, ⟨hle, rfl, fun b hb => hw b (fun x => by subst x; exact hfa hb), fun b o hb hz => hz.resolve_right (fun x => by rw [x.1] at hb; exact hfa hb), by omega, hos, hou, hta⟩⟩
  · simp only [R]
    refine .inl ⟨a, k, rfl, hsp, hk, hcm, by rw [List.length_append, hcl, hl, hmul], RZ_append _ _ _ _ (RZ_mono hle _ _ _ hrz) ?_⟩
    rw [hcl]
    refine RZ_of c2 us _ _ (RL_mono hle _ _ hr) (fun i v hi => ?_) (fun i hi => .inr ⟨rfl, by omega, ?_⟩)
    · show w'.cell? _ = _
      unfold World.cell?
      simp only [hv1]
      exact hv4 i v hi
    · have := RL_length _ _ hr
      omega
  · intro p hp
    rw [upd_at] at hp; cases hp
  · refine ⟨vs', T, hv1, by omega, ?_⟩
    rintro o (x | x)
    · have := hh2 o x; omega
    · exact x.2.2

theorem HRel.disown (h : HRel m S V w L G ow) (B : Nat) (hs : ∀ t, ow B = some (.slot t) → notFl (S t))
    (hc : ∀ l j, ow B = some (.cell l j) → ∀ (ver : Nat) (cs : List AV) (x : AV), look m l = .cells ver cs → cs[j]? = some x → notFl x) (hb : ∀ l, ow B ≠ some (.blk l)) :
    HRel m S V w L G (upd ow B none) := by
  refine { h with ob := ?_, so := ?_, co := ?_, fb := ?_ }
  · intro l hl
    obtain ⟨b, h1, h2, h3, h4, h5⟩ := h.ob l hl
    have : b ≠ B := by intro e; subst e; exact hb _ h4
    exact ⟨b, h1, h2, h3, by rw [upd_ne _ _ this]; exact h4, h5⟩
  · intro t e n cs a k hx hv
    obtain ⟨k1, k2⟩ := h.so t e n cs a k hx hv
    have : a.block ≠ B := by intro e'; rw [e'] at k1; have := hs t k1; rw [hx] at this; exact this
    exact ⟨by rw [upd_ne _ _ this]; exact k1, k2⟩
  · intro l ver cs b vs T j x v h1 h2 h3 h4 h5 e n c a k hx hv
    obtain ⟨k1, k2⟩ := h.co l ver cs b vs T j x v h1 h2 h3 h4 h5 e n c a k hx hv
    have : a.block ≠ B := by intro e'; rw [e'] at k1; have := hc l j k1 ver cs x h1 h4; rw [hx] at this; exact this
    exact ⟨by rw [upd_ne _ _ this]; exact k1, k2⟩
  · intro b k0
    have := h.fb b k0
    refine ⟨this.1, ?_⟩
    unfold upd; split
    · rfl
    · exact this.2

theorem RL_set {c : Wz} : ∀ (xs : List AV) (vs : List Value) (j : Nat) (x y : AV) (v : Value), RL c xs vs → vs[j]? = some v → R c y v → RL c (xs.set j y) vs
  | [], _, j, _, _, _, h, _, _ => by simpa using h
  | x :: xs, _, 0, z, y, v, h, hv, hy => by
    simp only [RL] at h
    obtain ⟨u, r, rfl, h2, h3⟩ := h
    simp at hv; subst hv
    exact RL_cons.2 ⟨hy, h3⟩
  | x :: xs, _, j + 1, z, y, v, h, hv, hy => by
    simp only [RL] at h
    obtain ⟨u, r, rfl, h2, h3⟩ := h
    exact RL_cons.2 ⟨h2, RL_set xs r j z y v h3 (by simpa using hv) hy⟩

/-- A cell's abstract value is told otherwise; the real one stays. -/
theorem HRel.retell (h : HRel m S V w L G ow) {l : Loc} {ver : Nat} {cs : List AV} {b : Nat} {vs : Array Value} {T : TypeId} {j : Nat} {v : Value} {y : AV}
    (hl : look m l = .cells ver cs) (hb : Blk L G.H l (look m l) b) (hw : w.heap[b]? = some (.cells vs T (0, 0))) (hj : j < cs.length) (hv : vs[j]? = some v) (hy : R (G.wz w) y v) (hn : notFl y ∨ ∀ a n k, v ≠ .slice (some a) n k) :
    HRel (setLook m l (.cells ver (cs.set j y))) S V w L G ow := by
  have hal : alive (look m l) := by rw [hl]; trivial
  obtain ⟨b', k1, k2, _⟩ := h.ob l hal
  obtain rfl := Blk_fun h hb k1
  rw [hl] at k2
  obtain ⟨vs', T', q1, q2, q3⟩ := k2
  have q1' : w.heap[b]? = some (.cells vs' T' (0, 0)) := q1
  rw [hw] at q1'; injection q1' with q1'; injection q1' with e1 e2; subst e1; subst e2
  refine (h.putObj (w' := w) (o' := .cells ver (cs.set j y)) (by rw [hl]; rfl) hb (fun _ _ => rfl) rfl rfl rfl rfl (fun _ => ⟨vs, T, hw, by simpa using q2, ?_⟩) ?_).1
  · rw [List.length_set]
    refine RL_set cs _ j y y v q3 ?_ hy
    rw [List.getElem?_take, if_pos hj]; simpa using hv
  · intro ver' cs' vs' T' i x u h1 h2 h3 h4
    injection h1 with h1 h1'
    subst h1'
    by_cases e : i = j
    · subst e
      rw [List.getElem?_set_self hj] at h3
      injection h3 with h3; subst h3
      have : vs[i]? = some u := by
        rw [hw] at h2; injection h2 with h2; injection h2 with h2 _; subst h2; exact h4
      rw [hv] at this; injection this with this; subst this
      exact .inl hn
    · rw [List.getElem?_set_ne (fun x => e x.symm)] at h3
      exact .inr ⟨ver, cs, vs', T', hl, h2, h3, h4⟩

/-- The right to append goes from a cell to a slot, with the value. -/
theorem HRel.take (h : HRel m S V w L G ow) (t : Nat) {l : Loc} {ver : Nat} {cs : List AV} {b : Nat} {vs : Array Value} {T : TypeId} {j e n k : Nat} {c : List AV} {a : Addr}
    (hl : look m l = .cells ver cs) (hb : Blk L G.H l (look m l) b) (hw : w.heap[b]? = some (.cells vs T (0, 0))) (hj : cs[j]? = some (.vec true e n c)) (hv : vs[j]? = some (.slice (some a) n k))
    (hR : R (G.wz w) (.vec true e n c) (.slice (some a) n k)) :
    ∃ ow', HRel (setLook m l (.cells ver (cs.set j (.vec false e n c)))) (upd S t (.vec true e n c)) (upd V t (.slice (some a) n k)) w L G ow' := by
  have hal : alive (look m l) := by rw [hl]; trivial
  have hjl : j < cs.length := (List.getElem?_eq_some_iff.1 hj).1
  obtain ⟨ho, us, T', hh⟩ := h.co l ver cs b vs T j _ _ hl hb hw hj hv e n c a k rfl rfl
  have h1 := h.retell hl hb hw hjl hv (y := .vec false e n c) (R_dm hR) (.inl (by simp [notFl]))
  have h2 := h1.disown a.block (fun t' x => by rw [ho] at x; cases x) (fun l' j' x ver' cs' x' q1 q2 => by
    rw [ho] at x; injection x with x; injection x with x1 x2; subst x1; subst x2
    rw [look_setLook m l _ hal, if_pos rfl] at q1
    injection q1 with q1 q1'; subst q1'
    rw [List.getElem?_set_self hjl] at q2
    injection q2 with q2; subst q2; simp [notFl]) (fun l' x => by rw [ho] at x; cases x)
  exact ⟨_, h2.setFl t hR (fun p x => by rw [upd_at] at x; cases x) (fun x => by have := (h.fb _ x).2; rw [ho] at this; cases this) ⟨us, T', hh⟩⟩

/-- The right to append goes from a slot to a cell that holds the same value already. -/
theorem HRel.give (h : HRel m S V w L G ow) (s : Nat) {l : Loc} {ver : Nat} {cs : List AV} {b : Nat} {vs : Array Value} {T : TypeId} {j e n : Nat} {c : List AV}
    (hs : S s = .vec true e n c) (hl : look m l = .cells ver cs) (hb : Blk L G.H l (look m l) b) (hw : w.heap[b]? = some (.cells vs T (0, 0))) (hj : cs[j]? = some (.vec false e n c)) (hv : vs[j]? = some (V s)) :
    ∃ ow', HRel (setLook m l (.cells ver (cs.set j (.vec true e n c)))) (upd S s (.vec false e n c)) V w L G ow' := by
  have hal : alive (look m l) := by rw [hl]; trivial
  have hjl : j < cs.length := (List.getElem?_eq_some_iff.1 hj).1
  have hsl := h.sl s
  rw [hs] at hsl
  have hR : R (G.wz w) (.vec true e n c) (V s) := hsl
  simp only [RS, R] at hsl
  rcases hsl with ⟨a, k, hvs, _⟩ | ⟨_, _, A, hvs, hA⟩
  rotate_left
  · rw [hA trivial] at hvs
    have hc := h.clear s
    rw [hs] at hc
    exact ⟨ow, hc.retell hl hb hw hjl hv hR (.inr (by rw [hvs]; simp))⟩
  obtain ⟨ho, us, T', hh1, hh2, hh3⟩ := h.so s e n c a k hs hvs
  -- struck, disowned
  have h0 : HRel m (upd S s (.vec false e n c)) V w L G ow := by have := h.clear s; rw [hs] at this; exact this
  have h1 := h0.disown a.block (fun t' x => by rw [ho] at x; injection x with x; injection x with x; subst x; rw [upd_at]; simp [notFl]) (fun l' j' x => by rw [ho] at x; cases x) (fun l' x => by rw [ho] at x; cases x)
  obtain ⟨b', k1, k2, k3, k4, k5⟩ := h1.ob l hal
  obtain rfl := Blk_fun h hb k1
  have hba : b ≠ a.block := by intro x; rw [x, upd_at] at k4; cases k4
  rw [upd_ne _ _ hba] at k4
  have hlk := look_setLook m l (.cells ver (cs.set j (.vec true e n c))) hal
  have hkind : sameKind (look m l) (.cells ver (cs.set j (.vec true e n c))) := by rw [hl]; rfl
  have hno : ∀ p, upd ow a.block none a.block = some p → False := fun p x => by rw [upd_at] at x; cases x
  refine ⟨upd ow a.block (some (.cell l j)), { sl := ?_, ob := ?_, so := ?_, co := ?_, zb := h.zb, fb := ?_, hd := ?_, hf := h.hf }⟩
  · intro t
    refine RS_bx (fun d hd => ?_) (h1.sl t)
    have := hlk (.loc d)
    simp only [look] at this
    rw [this]
    split
    · rename_i x; subst x; exact hkind
    · exact sameKind_refl hd
  · intro l' hl'
    rw [hlk l'] at hl' ⊢
    by_cases x : l' = l
    · subst x
      rw [if_pos rfl] at hl' ⊢
      refine ⟨b, (Blk_kind hkind).1 hb, ?_, k3, by rw [upd_ne _ _ hba]; exact k4, k5⟩
      rw [hl] at k2
      obtain ⟨vs', T'', q1, q2, q3⟩ := k2
      have q1' : w.heap[b]? = some (.cells vs' T'' (0, 0)) := q1
      rw [hw] at q1'; injection q1' with q1'; injection q1' with e1 e2; subst e1; subst e2
      refine ⟨vs, T, hw, by simpa using q2, ?_⟩
      rw [List.length_set]
      exact RL_set cs _ j (.vec true e n c) _ (V s) q3 (by rw [List.getElem?_take, if_pos hjl]; simpa using hv) hR
    · rw [if_neg x] at hl' ⊢
      obtain ⟨b', q1, q2, q3, q4, q5⟩ := h1.ob l' hl'
      have : b' ≠ a.block := by intro y; subst y; exact hno _ q4
      rw [upd_ne _ _ this] at q4
      exact ⟨b', q1, q2, q3, by rw [upd_ne _ _ this]; exact q4, q5⟩
  · intro t e' n' cs' a' k' hx hv'
    obtain ⟨q1, q2⟩ := h1.so t e' n' cs' a' k' hx hv'
    have : a'.block ≠ a.block := by intro y; rw [y] at q1; exact hno _ q1
    rw [upd_ne _ _ this] at q1
    exact ⟨by rw [upd_ne _ _ this]; exact q1, q2⟩
  · intro l' ver' cs' b'' vs' T'' j' x v q1 q2 q3 q4 q5 e' n' c' a' k' q6 q7
    rw [hlk l'] at q1 q2
    by_cases y : l' = l
    · subst y
      rw [if_pos rfl] at q1 q2
      have : b'' = b := Blk_fun h q2 ((Blk_kind hkind).1 hb)
      subst this
      rw [hw] at q3; injection q3 with q3; injection q3 with e1 e2; subst e1; subst e2
      injection q1 with q1 q1'; subst q1; subst q1'
      by_cases z : j' = j
      · subst z
        rw [List.getElem?_set_self hjl] at q4
        injection q4 with q4; subst q4
        injection q6 with _ e1 e2 e3; subst e1; subst e2
        rw [hv] at q5; injection q5 with q5; rw [hvs] at q5; subst q5
        injection q7 with e4 _ e6; injection e4 with e4; subst e4; subst e6
        exact ⟨upd_at _ _ _, us, T', hh1, hh2, hh3⟩
      · rw [List.getElem?_set_ne (fun x => z x.symm)] at q4
        obtain ⟨r1, r2⟩ := h1.co l' ver cs b'' vs T j' x v hl hb hw q4 q5 e' n' c' a' k' q6 q7
        have : a'.block ≠ a.block := by intro y; rw [y] at r1; exact hno _ r1
        rw [upd_ne _ _ this] at r1
        exact ⟨by rw [upd_ne _ _ this]; exact r1, r2⟩
    · rw [if_neg y] at q1 q2
      obtain ⟨r1, r2⟩ := h1.co l' ver' cs' b'' vs' T'' j' x v q1 q2 q3 q4 q5 e' n' c' a' k' q6 q7
      have : a'.block ≠ a.block := by intro y; rw [y] at r1; exact hno _ r1
      rw [upd_ne _ _ this] at r1
      exact ⟨by rw [upd_ne _ _ this]; exact r1, r2⟩
  · intro b0 x
    have q := h.fb b0 x
    have : b0 ≠ a.block := by intro y; subst y; rw [ho] at q; cases q.2
    exact ⟨q.1, by rw [upd_ne _ _ this]; exact q.2⟩
  · intro i v b0 x
    have := h.hd i v b0 x
    refine ⟨?_, this.2⟩
    cases l <;> simp [setLook] <;> exact this.1
end
end Go.Proofs.YtjchgncgkhofhaaGreat.AL
/- The A-logic: the operations, one by one: what the machine does is what the abstract step says (values, loads, boxes, literals). -/
set_option linter.unusedVariables false
set_option linter.unusedSimpArgs false
namespace Go.Proofs.YtjchgncgkhofhaaGreat.AL
open Go

def dAgg : TypeDesc → Bool
  | .struct _ | .array _ _ => true
  | _ => false
def vals (a : Act) (t : Nat) : Value := a.tmps.getD t undef

/-- The type table says what the program says, or nothing. -/
def EOk (P : Program) (E : Env) : Prop := ∀ t, E.T t = tyOf P t ∨ E.T t = ⟨.other, 0, 0, none, none⟩

section types
variable {P : Program} {E : Env} (hE : EOk P E)
include hE
theorem ty_all (t : Nat) : (∃ i d, P.info? t = some i ∧ P.underlying t = some d ∧ E.T t = tyOf P t) ∨ (E.T t) = ⟨.other, 0, 0, none, none⟩ := by
  rcases hE t with k | k
  · cases hi : P.info? t with
    | none => right; rw [k]; simp [tyOf, hi]
    | some i => cases hd : P.underlying t with
      | none => right; rw [k]; simp [tyOf, hi, hd]
      | some d => left; exact ⟨i, d, rfl, rfl, k⟩
  · exact .inr k
theorem ty_slice {t e : Nat} (h : (E.T t).ty = .slice e) : P.underlying t = some (.slice e) := by
  rcases ty_all hE t with ⟨i, d, hi, hd, k⟩ | k <;> rw [k] at h
  · simp only [tyOf, hi, hd] at h
    cases d <;> simp at h
    subst h; exact hd
  · cases h
theorem ty_str {t : Nat} (h : (E.T t).ty = .str) : P.underlying t = some .string := by
  rcases ty_all hE t with ⟨i, d, hi, hd, k⟩ | k <;> rw [k] at h
  · simp only [tyOf, hi, hd] at h
    cases d <;> simp at h
    exact hd
  · cases h
theorem ty_int {t : Nat} {k : IntKind} (h : (E.T t).ty = .int k) : P.underlying t = some (.int k) := by
  rcases ty_all hE t with ⟨i, d, hi, hd, k⟩ | k <;> rw [k] at h
  · simp only [tyOf, hi, hd] at h
    cases d <;> simp at h
    subst h; exact hd
  · cases h
theorem ty_map {t k e : Nat} (h : (E.T t).ty = .map k e) : P.underlying t = some (.map k e) := by
  rcases ty_all hE t with ⟨i, d, hi, hd, k⟩ | k <;> rw [k] at h
  · simp only [tyOf, hi, hd] at h
    cases d <;> simp at h
    obtain ⟨h1, h2⟩ := h; subst h1; subst h2; exact hd
  · cases h
theorem ty_struct {t : Nat} {fs : List (Nat × Nat)} (h : (E.T t).ty = .struct fs) : ∃ Fs, P.underlying t = some (.struct Fs) ∧ fs = Fs.toList.map fun f => (f.offset, f.type) := by
  rcases ty_all hE t with ⟨i, d, hi, hd, k⟩ | k <;> rw [k] at h
  · simp only [tyOf, hi, hd] at h
    cases d <;> simp at h
    exact ⟨_, hd, h.symm⟩
  · cases h
theorem ty_info {t : Nat} (h : (E.T t).size ≠ 0) : ∃ i d, P.info? t = some i ∧ P.underlying t = some d ∧ (E.T t).size = i.size ∧ (E.T t).bytes = i.bytes ∧ isAgg E t = dAgg d := by
  rcases ty_all hE t with ⟨i, d, hi, hd, k⟩ | k
  · refine ⟨i, d, hi, hd, ?_⟩
    unfold isAgg
    rw [k]
    simp only [tyOf, hi, hd]
    refine ⟨trivial, trivial, ?_⟩
    cases d <;> rfl
  · rw [k] at h; simp at h
theorem ty_zero {t : Nat} {z : List Value} (h : (E.T t).zero = some z) : ∃ i v, P.info? t = some i ∧ i.zero = some v ∧ z = v.cells.toList ∧ ((isAgg E t = true ∧ v = .agg z.toArray) ∨ (isAgg E t = false ∧ z = [v])) := by
  rcases ty_all hE t with ⟨i, d, hi, hd, k⟩ | k
  · have hag : isAgg E t = dAgg d := by
      unfold isAgg; rw [k]; simp only [tyOf, hi, hd]; cases d <;> rfl
    rw [k] at h
    simp only [tyOf, hi, hd] at h
    cases hz : i.zero with
    | none => rw [hz] at h; cases d <;> simp at h
    | some v =>
      rw [hz] at h
      refine ⟨i, v, hi, hz, ?_⟩
      rw [hag]
      cases d <;> cases v <;> simp at h <;> subst h <;> simp [Value.cells, dAgg]
  · rw [k] at h; cases h
end types

/-! ### Runs of the model's small programs -/
theorem run_typeInfo {P : Program} {t : TypeId} {i : TypeInfo} (h : P.info? t = some i) (w : World) : (typeInfo t).run P w = .ok i w := by
  simp [typeInfo, h]
theorem run_sizeOf {P : Program} {t : TypeId} {i : TypeInfo} (h : P.info? t = some i) (w : World) : (sizeOf t).run P w = .ok i.size w := by
  simp [sizeOf, run_typeInfo h]
theorem run_zeroValue {P : Program} {t : TypeId} {i : TypeInfo} {v : Value} (h : P.info? t = some i) (hz : i.zero = some v) (w : World) : (zeroValue t).run P w = .ok v w := by
  simp [zeroValue, run_typeInfo h, hz]
theorem run_isAgg {P : Program} {E : Env} {t : TypeId} {d : TypeDesc} (hd : P.underlying t = some d) (ha : isAgg E t = dAgg d) (w : World) :
    (Go.isAgg t).run P w = .ok (isAgg E t) w := by
  rw [ha]
  unfold Go.isAgg
  rw [Sem.run_bind, run_underlying hd, Result.andThen_ok]
  cases d <;> rfl

/-- A variable of type t is read: its cells are there. -/
theorem run_loadVar {P : Program} {E : Env} (hE : EOk P E) {t : TypeId} (hs : (E.T t).size ≠ 0) {b o : Nat} {vs : List Value} {w : World}
    (hl : vs.length = (E.T t).size ∨ (isAgg E t = false ∧ vs.length = 1)) (hc : ∀ (i : Nat) (v : Value), vs[i]? = some v → w.cell? ⟨b, o + i, none⟩ = some v) :
    (loadVar t ⟨b, o, none⟩).run P w = .ok (if isAgg E t then .agg vs.toArray else vs.headD undef) w := by
  obtain ⟨i, d, hi, hd, h1, h2, h3⟩ := ty_info hE hs
  unfold loadVar
  rw [Sem.run_bind, run_isAgg hd h3, Result.andThen_ok]
  cases hag : isAgg E t with
  | true =>
    have hl' : vs.length = i.size := by
      rcases hl with k | k
      · omega
      · rw [hag] at k; cases k.1
    simp only [if_true, Sem.run_bind, run_sizeOf hi, Result.andThen_ok]
    rw [← hl', run_loadCells_list w ⟨b, o, none⟩ vs (fun j v hj => by have := hc j v hj; rw [Addr.add_lit]; exact this)]
    rfl
  | false =>
    simp only [Bool.false_eq_true, if_false]
    cases vs with
    | nil => rcases hl with k | k
             · simp at k; omega
             · simp at k
    | cons v r =>
      have := hc 0 v rfl
      simp only [Nat.add_zero] at this
      simp [run_load, this]

/-! ### The end of an operation -/
def Fin (a : Act) (w : World) (G : Gh) (K : ASt → Prop) (a' : Act) (w' : World) : Prop :=
  ∃ st' L' G' ow', K st' ∧ HRel st'.m st'.f (vals a') w' L' G' ow' ∧ Ext w G w' G' ∧ a'.defers = a.defers ∧ a'.tmps.size = a.tmps.size

theorem vals_put {a : Act} {d : Nat} {v : Value} (h : d < a.tmps.size) : vals (a.put (some d) v) = upd (vals a) d v := by
  funext t
  simp only [vals, Act.put, upd, Array.getD_eq_getD_getElem?]
  by_cases e : t = d
  · subst e; simp [h]
  · rw [if_neg e, Array.getElem?_setIfInBounds_ne (fun x => e x.symm)]
theorem size_put (a : Act) (d : Option Nat) (v : Value) : (a.put d v).tmps.size = a.tmps.size := by cases d <;> simp [Act.put]
theorem defers_put (a : Act) (d : Option Nat) (v : Value) : (a.put d v).defers = a.defers := by cases d <;> rfl

theorem wp_value {P : Program} {o : Oper} {a : Act} {w w' : World} {next : Act → World → Prop} {Q : Exit → Act → World → Prop} {v : Value}
    (h : (execOp a.eval o).run P w = .ok (.value v) w') (hn : next (a.put o.dst v) w') : o.wp P a w next Q := by
  unfold Oper.wp; rw [h]; exact hn
theorem wp_skipop {P : Program} {o : Oper} {a : Act} {w w' : World} {next : Act → World → Prop} {Q : Exit → Act → World → Prop}
    (h : (execOp a.eval o).run P w = .ok .skip w') (hn : next (a.put o.dst undef) w') : o.wp P a w next Q := by
  unfold Oper.wp; rw [h]; exact hn

section
variable {m : Mem} {f : Nat → AV} {a : Act} {w : World} {L : Nat → Nat} {G : Gh} {ow : Nat → Option Pos}

/-- An operand's value. -/
theorem ev_rs (h : HRel m f (vals a) w L G ow) (x : Operand) : RS (G.wz w) m.bx L (evo f x) (a.eval x) := by
  cases x with
  | tmp t => exact h.sl t
  | const v => exact RS_of_R (R_const v)
  | global g => simp [evo, RS, R]
  | func g =>
    refine RS_of_R ?_
    simp only [evo, R, Act.eval]
    exact ⟨[], [], rfl, RL_nil, RL_nil⟩
theorem ofV_notFl (v : Value) : notFl (ofV v) := by unfold ofV; split <;> trivial
theorem evo_fl {x : Operand} (h : ¬ notFl (evo f x)) : ∃ t, x = .tmp t := by
  cases x with
  | tmp t => exact ⟨t, rfl⟩
  | const v => exact absurd (ofV_notFl v) h
  | global g => exact absurd trivial h
  | func g => exact absurd trivial h

theorem HRel.clr (h : HRel m f (vals a) w L G ow) (tk : Option Nat) (xs : List Operand) : HRel m (clr f tk xs) (vals a) w L G ow := by
  unfold AL.clr
  cases tk with
  | none => exact h
  | some k =>
    dsimp only
    cases xs[k]? with
    | none => exact h
    | some x => cases x with
      | tmp t =>
        dsimp only
        split
        · rename_i e l c he
          have := h.clear t
          rwa [he] at this
        · exact h
      | _ => exact h

/-- A plain value is put. -/
theorem HRel.putd (h : HRel m f (vals a) w L G ow) {d : Option Nat} (hd : ∀ x, d = some x → x < a.tmps.size) {x : AV} {v : Value} (hx : RS (G.wz w) m.bx L x v) (hn : notFl x) (bx : Nat → AObj) :
    HRel m (finF false bx d x f) (vals (a.put d v)) w L G ow := by
  cases d with
  | none => exact h
  | some d => rw [vals_put (hd d rfl)]; exact h.set d hx hn

theorem fin_plain {K : ASt → Prop} {w' : World} (h : HRel m f (vals a) w L G ow) {d : Option Nat} (hd : ∀ x, d = some x → x < a.tmps.size) (g : Grow w w') {x : AV} {v : Value}
    (hx : RS (G.wz w') m.bx L x v) (hn : notFl x) {bx : Nat → AObj} (hK : K ⟨finF false bx d x f, m⟩) : Fin a w G K (a.put d v) w' :=
  ⟨⟨_, m⟩, L, G, ow, hK, (h.grow g).putd hd hx hn bx, g.ext h.zb (fun b k => (h.fb b k).1), defers_put _ _ _, size_put _ _ _⟩

/-- A value that may bear the right to append goes from an operand to the result. -/
theorem fin_move {K : ASt → Prop} (h : HRel m f (vals a) w L G ow) {d : Option Nat} (hd : ∀ x, d = some x → x < a.tmps.size) {tk : Option Nat} {x : Operand} {bx : Nat → AObj}
    (hK : K ⟨finF false bx d (if tk = some 0 then evo f x else dm (evo f x)) (clr f tk [x]), m⟩) : Fin a w G K (a.put d (a.eval x)) w := by
  have hc := h.clr tk [x]
  have hrs := ev_rs h x
  by_cases hn : notFl (if tk = some 0 then evo f x else dm (evo f x))
  · refine fin_plain hc hd (.refl _) ?_ hn hK
    split
    · exact hrs
    · exact RS_dm hrs
  · have ht : tk = some 0 := by
      rcases Classical.em (tk = some 0) with k | k
      · exact k
      · rw [if_neg k] at hn; exact absurd (notFl_dm _) hn
    subst ht
    rw [if_pos rfl] at hn hK
    obtain ⟨t, rfl⟩ := evo_fl hn
    cases hft : f t with
    | vec o e n cs =>
      cases o with
      | false => rw [show evo f (.tmp t) = .vec false e n cs from hft] at hn; exact absurd trivial hn
      | true =>
        have hclr : clr f (some 0) [.tmp t] = upd f t (.vec false e n cs) := by simp [clr, hft]
        rw [hclr, show evo f (.tmp t) = .vec true e n cs from hft] at hK
        cases d with
        | none => exact ⟨_, L, G, ow, hK, by rw [hclr] at hc; exact hc, .refl _ _, rfl, rfl⟩
        | some d =>
          obtain ⟨ow', h2⟩ := h.move t d hft
          exact ⟨_, L, G, ow', hK, by rw [vals_put (hd d rfl)]; exact h2, .refl _ _, defers_put _ _ _, size_put _ _ _⟩
    | _ => exact absurd (by rw [show evo f (.tmp t) = f t from rfl, hft]; trivial) hn

/-- A slice with the right to append, in a new row. -/
theorem fin_fresh {K : ASt → Prop} (h : HRel m f (vals a) w L G ow) {d : Option Nat} (hd : ∀ x, d = some x → x < a.tmps.size) {e n cap : Nat} {cs : List AV} {vs : Array Value} {T : TypeId} {bx : Nat → AObj}
    (hr : RL (G.wz w) cs (vs.toList.take cs.length)) (hl : cs.length = n * e) (hc : n ≤ cap) (hm : cap ≤ maxLen) (hs : cap * e ≤ vs.size) (hK : K ⟨finF false bx d (.vec true e n cs) f, m⟩) :
    Fin a w G K (a.put d (.slice (some ⟨w.heap.size, 0, none⟩) n cap)) (w.alloc (.cells vs T (0, 0))) := by
  cases d with
  | none => exact ⟨_, L, G, ow, hK, h.grow (Grow.alloc _ _), (Grow.alloc _ _).ext h.zb (fun b k => (h.fb b k).1), rfl, rfl⟩
  | some d =>
    obtain ⟨G', ow', h1, h2⟩ := h.freshVec d hr hl hc hm hs (T := T)
    exact ⟨_, L, G', ow', hK, by rw [vals_put (hd d rfl)]; exact h1, h2, defers_put _ _ _, size_put _ _ _⟩
end
end Go.Proofs.YtjchgncgkhofhaaGreat.AL
