/- The A-logic: regions whose order is drawn: what an operation leaves alone. -/
import Derived.Test.YtjchgncgkhofhaaGreatM5
set_option linter.unusedVariables false
set_option linter.unusedSimpArgs false
namespace Go.Proofs.YtjchgncgkhofhaaGreat.AL
open Go

/-- The same but for rights to append. -/
def objSim (a b : AObj) : Prop := a = b ∨ ∃ ver cs cs', a = .cells ver cs ∧ b = .cells ver cs' ∧ cs.map dm = cs'.map dm
def memSim (m m' : Mem) : Prop := m'.gs = m.gs ∧ ∀ p, objSim (m.bx p) (m'.bx p)
theorem memSim.refl (m : Mem) : memSim m m := ⟨rfl, fun _ => .inl rfl⟩
theorem objSim.trans {a b c : AObj} (h : objSim a b) (k : objSim b c) : objSim a c := by
  rcases h with rfl | ⟨v, cs, cs', rfl, rfl, h3⟩
  · exact k
  · rcases k with rfl | ⟨v', ds, ds', k1, rfl, k3⟩
    · exact .inr ⟨v, cs, cs', rfl, rfl, h3⟩
    · injection k1 with k1 k2; subst k1; subst k2
      exact .inr ⟨_, _, _, rfl, rfl, h3.trans k3⟩
theorem memSim.trans {a b c : Mem} (h : memSim a b) (k : memSim b c) : memSim a c := ⟨k.1.trans h.1, fun p => (h.2 p).trans (k.2 p)⟩

/-- What holds cells holds the same, but for rights. -/
def cellSim (m m' : Mem) : Prop := (∀ (id ver : Nat) (cs : List AV), m.gs[id]? = some (.cells ver cs) → m'.gs[id]? = some (.cells ver cs)) ∧
  ∀ (p ver : Nat) (cs : List AV), m.bx p = .cells ver cs → ∃ cs', m'.bx p = .cells ver cs' ∧ cs.map dm = cs'.map dm
theorem memSim.cell {m m' : Mem} (h : memSim m m') : cellSim m m' := by
  refine ⟨fun id ver cs hc => by rw [h.1]; exact hc, fun p ver cs hc => ?_⟩
  rcases h.2 p with e | ⟨v, c1, c2, e, e2, h3⟩
  · exact ⟨cs, e ▸ hc, rfl⟩
  · rw [hc] at e; injection e with e1 e3; subst e1; subst e3; exact ⟨c2, e2, h3⟩
theorem cellSim.trans {a b c : Mem} (h : cellSim a b) (k : cellSim b c) : cellSim a c := by
  refine ⟨fun id ver cs hc => k.1 _ _ _ (h.1 _ _ _ hc), fun p ver cs hc => ?_⟩
  obtain ⟨c1, h1, h2⟩ := h.2 p ver cs hc
  obtain ⟨c2, h3, h4⟩ := k.2 p ver c1 h1
  exact ⟨c2, h3, h2.trans h4⟩
def simAt (c : Nat) (m m' : Mem) : Prop := c = 0 ∨ memSim m m' ∨ (c = 1 ∧ cellSim m m')
theorem simAt.trans {n : Nat} {a b c : Mem} (h : simAt n a b) (k : simAt n b c) : simAt n a c := by
  rcases h with h | h | ⟨h0, h⟩
  · exact .inl h
  · rcases k with k | k | ⟨k0, k⟩
    · exact .inl k
    · exact .inr (.inl (h.trans k))
    · exact .inr (.inr ⟨k0, h.cell.trans k⟩)
  · rcases k with k | k | ⟨k0, k⟩
    · exact .inl k
    · exact .inr (.inr ⟨h0, h.trans k.cell⟩)
    · exact .inr (.inr ⟨h0, h.trans k⟩)

/-- What operations do to memory: 0: they do not look at it; 1: they read cells; 2: they read it; 3: they move rights to append, no more; 4: they write maps; 5: anything. -/
def clsC (E : Env) (d : Option Nat) (tkm : Bool) (tk : Option Nat) (op : Op) : Nat :=
  match op with
  | .move _ | .assign _ => match tk with | none => 0 | some _ => 3
  | .binOp bo t _ _ _ => match bo with | .eql => (match (E.T t).ty with | .slice _ => 5 | _ => 0) | _ => 0
  | .pick .. | .nilCheck _ | .unOp .. | .fieldAddr .. | .field .. | .indexAddr .. | .index .. | .slice .. | .extract .. | .build .. | .buildSlice .. => 0
  | .load .. => match tkm with | false => 1 | true => if noTk E d true = true then 3 else 5
  | .call { callee := .builtin .len, .. } => 2
  | .call { callee := .builtin .append, .. } => match apOk E d with | true => 5 | false => 3
  | .call { callee := .builtin .delete, .. } => 4
  | .call { callee := .value (.func g), .. } => match E.oa g, E.ro g with | false, true => 2 | _, _ => 5
  | .lookup .. => 2
  | .mapUpdate .. => 4
  | _ => 5

section
variable {E : Env} {all : List Oper} {o : Oper} {m : Mem} {K K' : AV → Mem → Prop}

theorem frc_imp {x : AV} {A B : AV → Prop} (h : frc x A) (hab : ∀ x, A x → B x) : frc x B := by
  rw [frc_eq] at *; exact hab _ h
theorem ldc_imp {t : Nat} {cs : List AV} {off : Nat} {A B : AV → Prop} (h : ldc E t cs off A) (hab : ∀ x, A x → B x) : ldc E t cs off B := by
  unfold ldc at *
  split
  · rename_i h0; rw [if_pos h0] at h; exact h
  · rename_i h0
    rw [if_neg h0] at h
    split
    · rename_i h1
      rw [if_pos h1] at h
      split
      · rename_i h2; rw [if_pos h2] at h; rw [frcN_eq] at *; exact hab _ h
      · rename_i h2; rw [if_neg h2] at h; exact h
    · rename_i h1
      rw [if_neg h1] at h
      split
      · rename_i v r hq; simp only [hq] at h; exact frc_imp h hab
      · rename_i hq; simp only [hq] at h
theorem ldc_imp' {t : Nat} {cs : List AV} {off : Nat} {A B : AV → Prop} (h : ldc E t cs off A) (hab : ∀ e l c, cs[off]? = some (.vec true e l c) → A (.vec true e l c) → B (.vec true e l c)) (hn : ∀ x, notFl x → A x → B x) : ldc E t cs off B := by
  obtain ⟨x, hx, hs, hcase⟩ := ldc_inv h
  unfold ldc
  rw [if_neg hs]
  rcases hcase with ⟨h1, h2, rfl⟩ | ⟨h1, h2⟩
  · rw [if_pos h1, if_pos h2, frcN_eq]; exact hn _ trivial hx
  · rw [if_neg (by rw [h1]; simp)]
    have : ∃ r, cs.drop off = x :: r := by
      have hlt := (List.getElem?_eq_some_iff.1 h2).1
      rw [List.drop_eq_getElem_cons hlt]
      rw [List.getElem?_eq_getElem hlt] at h2; injection h2 with h2
      exact ⟨_, by rw [h2]⟩
    obtain ⟨r, hr⟩ := this
    simp only [hr]
    rw [frc_eq]
    cases x with
    | vec b e l c => cases b with
      | true => exact hab e l c h2 hx
      | false => exact hn _ trivial hx
    | _ => exact hn _ trivial hx
theorem abin_imp {op : BinOp} {t : Nat} {x y : AV} {A B : AV → Prop} (h : abin E op t x y A) (hab : ∀ x, A x → B x) : abin E op t x y B := by
  cases op <;> simp only [abin] at h ⊢ <;> first
    | exact h
    | (split at h <;> first
        | exact h.elim
        | exact hab _ h
        | exact ⟨h.1, hab _ h.2⟩
        | (split at h <;> first
            | exact h.elim
            | (rename_i hk; subst hk; simp only [if_true]; first | exact hab _ h | exact ⟨h.1, hab _ h.2⟩)))

theorem cell_map_loc {bx : Nat → AObj} {gs : List AObj} {d : Nat} {es es' : List (AV × AV)} (h : bx d = .map es) : cellSim ⟨bx, gs⟩ ⟨upd bx d (.map es'), gs⟩ := by
  refine ⟨fun _ _ _ h => h, fun p ver cs hp => ⟨cs, ?_, rfl⟩⟩
  have : p ≠ d := by intro e; subst e; simp only at hp; rw [h] at hp; cases hp
  exact (upd_ne _ _ this).trans hp
theorem cell_map_obj {bx : Nat → AObj} {gs : List AObj} {id : Nat} {es es' : List (AV × AV)} (h : gs[id]? = some (.map es)) : cellSim ⟨bx, gs⟩ ⟨bx, gs.set id (.map es')⟩ := by
  refine ⟨fun i ver cs hi => ?_, fun p ver cs hp => ⟨cs, hp, rfl⟩⟩
  have : id ≠ i := by intro e; subst e; simp only at hi; rw [h] at hi; cases hi
  show (gs.set id _)[i]? = _
  rw [List.getElem?_set_ne this]; exact hi

/-- What follows from what an operation leaves, follows of it; what does not write leaves memory the same but for rights. -/
theorem aopC_imp (hC : ∀ g args gs A B, E.C g args gs A → (∀ v gs, A v gs → B v gs) → E.C g args gs B) {d : Option Nat} {tkm : Bool} {tk : Option Nat} {op : Op} {xs : List AV} (h : aopC E d tkm op xs m K)
    (hx : ∀ args ats g, op = .call { callee := .value (.func g), args := args, argTypes := ats } → ∃ r, xs = .fn (.func g) [] [] :: r)
    (hK : ∀ v m', (clsC E d tkm tk op ≤ 3 → memSim m m') → (clsC E d tkm tk op ≤ 4 → cellSim m m') → K v m' → K' v m') : aopC E d tkm op xs m K' := by
  have hs : ∀ v, K v m → K' v m := fun v hk => hK v m (fun _ => .refl m) (fun _ => (memSim.refl m).cell) hk
  have hw : clsC E d tkm tk op > 4 → ∀ v m', K v m' → K' v m' := fun hc v m' hk => hK v m' (fun hc' => absurd hc' (by omega)) (fun hc' => absurd hc' (by omega)) hk
  cases op with
  | move x =>
    simp only [aopC] at h ⊢
    split at h
    · exact frc_imp h hs
    · exact h.elim
  | assign x =>
    simp only [aopC] at h ⊢
    split at h
    · exact frc_imp h hs
    · exact h.elim
  | pick c x y =>
    simp only [aopC] at h ⊢
    split at h
    · rename_i t a b
      cases t <;> exact frc_imp h hs
    · exact h.elim
  | alloc t =>
    have hw1 := hw (by simp [clsC])
    simp only [aopC] at h ⊢
    split at h
    · rename_i d z hz
      try simp only [hz]
      split at h <;> rename_i he <;> simp only [he, if_true, Bool.false_eq_true, if_false] <;> obtain ⟨bx, gs⟩ := m <;> exact hw1 _ _ h
    · exact h.elim
  | box t x =>
    have hw1 := hw (by simp [clsC])
    simp only [aopC] at h ⊢
    split at h
    · rename_i d x
      rw [frcL_eq] at h ⊢
      split at h
      · exact h.elim
      rename_i hok
      rw [if_neg hok]
      split at h <;> rename_i he <;> simp only [he, if_true, Bool.false_eq_true, if_false] <;> obtain ⟨bx, gs⟩ := m <;> exact hw1 _ _ h
    · exact h.elim
  | build t ps =>
    simp only [aopC] at h ⊢
    split at h
    case h_2 => exact h.elim
    rename_i fs z h1 h2
    try simp only [h1, h2]
    split at h
    · exact h.elim
    rename_i hall
    rw [if_neg hall]
    split at h
    case h_2 => exact h.elim
    rename_i cs hcs
    try simp only [hcs]
    rw [frcL_eq] at *
    exact hs _ h
  | buildSlice t n ps =>
    simp only [aopC] at h ⊢
    split at h
    case h_2 => exact h.elim
    rename_i e h1
    try simp only [h1]
    split at h
    case h_2 => exact h.elim
    rename_i cs hcs
    try simp only [hcs]
    split at h
    case isFalse => exact h.elim
    rename_i hh
    rw [if_pos hh]
    exact hs _ h
  | load t x =>
    simp only [aopC] at h ⊢
    split at h
    · exact ldc_imp h fun v hk => hs _ hk
    · rename_i p off
      obtain ⟨bx, gs⟩ := m
      simp only at h ⊢
      split at h
      case h_2 => exact h.elim
      rename_i ver cs hbx
      try simp only [hbx]
      refine ldc_imp' h (fun e l c hv hk => ?_) (fun x hn hk => ?_)
      · simp only at hk ⊢
        split at hk
        · rename_i ht
          rw [if_pos ht]
          have hms : memSim ⟨bx, gs⟩ ⟨upd bx p (.cells ver (lay cs off [.vec false e l c])), gs⟩ := by
           refine ⟨rfl, fun q => ?_⟩
           by_cases hq : q = p
           · subst hq
             refine .inr ⟨ver, cs, _, hbx, upd_at _ _ _, ?_⟩
             have hlt := (List.getElem?_eq_some_iff.1 hv).1
             rw [lay_one _ _ _ hlt, List.map_set]
             apply List.ext_getElem?
             intro i
             rw [List.getElem?_set]
             split
             · rename_i hi; subst hi
               rw [if_pos (by simpa using hlt), List.getElem?_map, hv]; rfl
             · rfl
           · exact .inl (upd_ne _ _ hq).symm
          exact hK _ _ (fun _ => hms) (fun _ => hms.cell) hk
        · rename_i ht
          rw [if_neg ht]
          exact hs _ hk
      · cases x with
        | vec b e l c => cases b with
          | true => exact hn.elim
          | false => exact hs _ hk
        | _ => exact hs _ hk
    · rename_i id off
      split at h
      · exact h.elim
      rename_i hno
      rw [if_neg hno]
      obtain ⟨cs, hcs, h⟩ := h
      refine ⟨cs, hcs, ldc_imp h fun v hk => ?_⟩
      split at hk
      · rename_i e l c
        split at hk
        · rename_i ht
          rw [if_pos ht]
          have hc3 : clsC E d tkm tk (.load t x) > 4 := by
            have : noTk E d true = false := by
              subst ht; simpa using hno
            subst ht
            simp [clsC, this]
          obtain ⟨bx, gs⟩ := m
          exact hw hc3 _ _ hk
        · rename_i ht
          rw [if_neg ht]
          exact hs _ hk
      · exact hs _ hk
    · exact h.elim
  | store t x y =>
    have hw1 := hw (by simp [clsC])
    simp only [aopC] at h ⊢
    split at h
    · rename_i p off x
      split at h
      · exact h.elim
      rename_i h0
      rw [if_neg h0]
      rw [frcL_eq] at *
      split at h
      case isFalse => exact h.elim
      rename_i h1
      rw [if_pos h1]
      obtain ⟨bx, gs⟩ := m
      simp only at h ⊢
      split at h
      case h_2 => exact h.elim
      rename_i ver cs hbx
      try simp only [hbx]
      split at h
      case isFalse => exact h.elim
      rename_i h2
      rw [if_pos h2]
      rw [frcL_eq] at *
      exact hw1 _ _ h
    · rename_i id off x
      split at h
      · exact h.elim
      rename_i h0
      rw [if_neg h0]
      rw [frcL_eq] at *
      split at h
      case isFalse => exact h.elim
      rename_i h1
      rw [if_pos h1]
      obtain ⟨bx, gs⟩ := m
      obtain ⟨cs, k1, k2, k3⟩ := h
      exact ⟨cs, k1, k2, hw1 _ _ k3⟩
    · exact h.elim
  | nilCheck x =>
    simp only [aopC] at h ⊢
    split at h <;> first | exact hs _ h | exact h.elim
  | binOp op t x y rt =>
    simp only [aopC] at h ⊢
    split at h
    · exact ⟨fun h0 => hs _ (h.1 h0), hs _ h.2⟩
    split at h
    · exact abin_imp h fun v hk => hs _ hk
    · exact h.elim
  | unOp op t x =>
    cases op <;> simp only [aopC] at h ⊢ <;> split at h <;> first | exact hs _ h | exact h.elim
  | convert s t x =>
    simp only [aopC] at h ⊢
    split at h
    · rename_i h1 h2; (try simp only [h1, h2]); exact hs _ h
    · rename_i h1 h2; (try simp only [h1, h2]); exact hs _ h
    · rename_i h1 h2; (try simp only [h1, h2])
      split at h
      case h_2 => exact h.elim
      rename_i h3; (try simp only [h3])
      split at h
      case isFalse => exact h.elim
      rename_i h4; rw [if_pos h4]
      exact ⟨h.1, hs _ h.2⟩
    · rename_i h1 h2; (try simp only [h1, h2])
      split at h
      case h_2 => exact h.elim
      rename_i h3; (try simp only [h3])
      split at h
      case isFalse => exact h.elim
      rename_i h4; rw [if_pos h4]
      obtain ⟨l, k1, k2⟩ := h
      exact ⟨l, k1, hs _ k2⟩
    · exact h.elim
  | makeFunc fn fs cs =>
    cases fn <;> simp only [aopC] at h ⊢
    split at h
    case isFalse => exact h.elim
    rename_i h1
    rw [if_pos h1]
    rw [frcL_eq] at *
    exact hs _ h
  | makeMap t r =>
    cases r with
    | some r => exact h
    | none =>
      have hw1 := hw (by simp [clsC])
      simp only [aopC] at h ⊢
      split at h
      · split at h <;> rename_i he <;> simp only [he, if_true, Bool.false_eq_true, if_false] <;> obtain ⟨bx, gs⟩ := m <;> exact hw1 _ _ h
      · exact h.elim
  | fieldAddr t x i =>
    simp only [aopC] at h ⊢
    split at h
    case h_2 => exact h.elim
    rename_i h1
    try simp only [h1]
    split at h
    case h_2 => exact h.elim
    rename_i h2
    try simp only [h2]
    split at h
    · exact h.elim
    rename_i h3
    rw [if_neg h3]
    split at h <;> first | exact hs _ h | exact h.elim
  | field t x i =>
    simp only [aopC] at h ⊢
    split at h
    case h_2 => exact h.elim
    rename_i h1
    try simp only [h1]
    split at h
    case h_2 => exact h.elim
    rename_i h2
    try simp only [h2]
    exact ldc_imp h fun v hk => hs _ hk
  | indexAddr t x i =>
    simp only [aopC] at h ⊢
    split at h
    case h_3 => exact h.elim
    · rename_i h1
      try simp only [h1]
      split at h
      · exact h.elim
      rename_i h3
      rw [if_neg h3]
      obtain ⟨k1, c, k2, k3⟩ := h
      exact ⟨k1, c, k2, hs _ k3⟩
    · rename_i h1
      try simp only [h1]
      split at h
      · exact h.elim
      rename_i h3
      rw [if_neg h3]
      exact ⟨h.1, hs _ h.2⟩
  | index t x i =>
    simp only [aopC] at h ⊢
    split at h
    case h_2 => exact h.elim
    rename_i h1
    try simp only [h1]
    obtain ⟨k1, c, k2, k3⟩ := h
    exact ⟨k1, c, k2, hs _ k3⟩
  | slice t x lo hi mx =>
    simp only [aopC] at h ⊢
    split at h
    · rename_i h1
      try simp only [h1]
      split at h
      case h_2 => exact h.elim
      rename_i h2
      try simp only [h2]
      exact ⟨h.1, hs _ h.2⟩
    · rename_i h1
      try simp only [h1]
      split at h
      case h_2 => exact h.elim
      rename_i h2
      try simp only [h2]
      split at h
      · exact h.elim
      rename_i h3
      rw [if_neg h3]
      exact ⟨h.1, hs _ h.2⟩
    · rename_i h1
      try simp only [h1]
      split at h
      case h_2 => exact h.elim
      rename_i h2
      try simp only [h2]
      split at h
      · exact h.elim
      rename_i h3
      rw [if_neg h3]
      exact ⟨h.1, hs _ h.2⟩
    · exact h.elim
  | makeSlice t x y =>
    have hw1 := hw (by simp [clsC])
    simp only [aopC] at h ⊢
    split at h
    case h_2 => exact h.elim
    rename_i h1
    try simp only [h1]
    split at h
    case h_2 => exact h.elim
    rename_i h2
    try simp only [h2]
    split at h
    · exact h.elim
    rename_i h3
    rw [if_neg h3]
    obtain ⟨bx, gs⟩ := m
    exact ⟨h.1, hw1 _ _ h.2⟩
  | extract x i =>
    simp only [aopC] at h ⊢
    split at h
    case h_2 => exact h.elim
    split at h
    case h_2 => exact h.elim
    rename_i h1
    try simp only [h1]
    exact frc_imp h hs
  | lookup t x y ok =>
    simp only [aopC] at h ⊢
    split at h
    case h_2 => exact h.elim
    rename_i h1
    try simp only [h1]
    split at h
    case h_2 => exact h.elim
    rename_i h2
    try simp only [h2]
    obtain ⟨es, k1, k2, r, k3, k4⟩ := h
    refine ⟨es, k1, k2, r, k3, ?_⟩
    refine frc_imp k4 fun v hk => ?_
    cases ok <;> exact hs _ hk
  | mapUpdate t x y z =>
    simp only [aopC] at h ⊢
    split at h
    case h_2 => exact h.elim
    rename_i h1
    try simp only [h1]
    obtain ⟨es, k1, k2, r, k3, k4⟩ := h
    refine ⟨es, k1, k2, r, k3, ?_⟩
    obtain ⟨bx, gs⟩ := m
    rename_i l _ _
    cases l with
    | loc d1 => exact hK _ _ (fun hc => by simp [clsC] at hc) (fun _ => cell_map_loc k1) k4
    | obj d1 => exact hK _ _ (fun hc => by simp [clsC] at hc) (fun _ => cell_map_obj k1) k4
  | call c =>
    obtain ⟨callee, args, ats⟩ := c
    cases callee with
    | invoke r n => exact h
    | builtin b =>
      cases b <;> try exact h
      case append =>
        simp only [aopC] at h ⊢
        split at h
        case h_2 => exact h.elim
        split at h
        · exact h.elim
        rename_i h1
        rw [if_neg h1]
        split at h
        case h_2 => exact h.elim
        rename_i h2
        try simp only [h2]
        split at h
        · split at h
          · exact h.elim
          rename_i h3; rw [if_neg h3]; exact hs _ h
        · split at h
          · exact h.elim
          rename_i h3; rw [if_neg h3]; exact ⟨h.1, hs _ h.2⟩
        · split at h
          · exact h.elim
          rename_i h3; rw [if_neg h3]; exact hs _ h
        · split at h
          · exact h.elim
          rename_i h3; rw [if_neg h3]; exact ⟨h.1, hs _ h.2⟩
        · split at h
          · exact h.elim
          rename_i h3; rw [if_neg h3]
          have hw1 := hw (by
            simp only [clsC]
            split
            · omega
            · rename_i q; exact absurd (.inl q) h3)
          obtain ⟨bx, gs⟩ := m
          obtain ⟨cs, k1, k2, k3⟩ := h
          exact ⟨cs, k1, k2, hw1 _ _ k3⟩
        · exact h.elim
      case clear =>
        have hw1 := hw (by simp [clsC])
        simp only [aopC] at h ⊢
        split at h
        case h_2 => exact h.elim
        rename_i h0
        try simp only [h0]
        split at h
        case h_2 => exact h.elim
        rename_i h1
        try simp only [h1]
        split at h
        case h_2 => exact h.elim
        rename_i h2
        try simp only [h2]
        split at h
        · exact h.elim
        rename_i h3
        rw [if_neg h3]
        obtain ⟨bx, gs⟩ := m
        obtain ⟨cs, k1, k2, k3⟩ := h
        exact ⟨cs, k1, k2, hw1 _ _ k3⟩
      case len =>
        simp only [aopC] at h ⊢
        split at h
        case h_2 => exact h.elim
        rename_i h1
        try simp only [h1]
        split at h
        · rename_i h2; (try simp only [h2]); exact hs _ h
        · rename_i h2; (try simp only [h2]); exact hs _ h
        · rename_i h2; (try simp only [h2]); exact hs _ h
        · rename_i h2; (try simp only [h2]); exact hs _ h
        · rename_i h2; (try simp only [h2])
          split at h
          case h_2 => exact h.elim
          rename_i h3; (try simp only [h3]); exact hs _ h
        · rename_i h2; (try simp only [h2])
          obtain ⟨es, k1, k2⟩ := h
          exact ⟨es, k1, hs _ k2⟩
        · exact h.elim
      case delete =>
        simp only [aopC] at h ⊢
        split at h
        case h_2 => exact h.elim
        rename_i h0
        try simp only [h0]
        split at h
        case h_2 => exact h.elim
        rename_i h1
        try simp only [h1]
        obtain ⟨es, k1, k2, r, k3, k4⟩ := h
        refine ⟨es, k1, k2, r, k3, ?_⟩
        obtain ⟨bx, gs⟩ := m
        rename_i l _
        cases l with
        | loc d1 => exact hK _ _ (fun hc => by simp [clsC] at hc) (fun _ => cell_map_loc k1) k4
        | obj d1 => exact hK _ _ (fun hc => by simp [clsC] at hc) (fun _ => cell_map_obj k1) k4
    | value fo =>
      simp only [aopC] at h ⊢
      split at h
      case h_2 => exact h.elim
      rename_i g first caps args'
      split at h
      case isFalse => exact h.elim
      rename_i h1
      rw [if_pos h1]
      rw [frcL_eq] at *
      refine hC _ _ _ _ _ h fun v gs hk => ?_
      split at hk
      · rename_i h2
        rw [if_pos h2]
        exact ⟨hk.1, frc_imp hk.2 fun v hk => hs _ hk⟩
      · rename_i h2
        rw [if_neg h2]
        have hw1 := hw (by
          cases fo with
          | func g0 =>
            obtain ⟨r, hr⟩ := hx _ _ _ rfl
            injection hr with hr _; injection hr with hr _ _; injection hr with hr; subst hr
            simp only [clsC]
            cases hoa : E.oa g <;> cases hro : E.ro g <;> simp only <;> first | omega | (rw [hro] at h2; exact absurd rfl h2)
          | _ => simp only [clsC]; omega)
        obtain ⟨bx, gs0⟩ := m
        exact frc_imp hk fun v hk => hw1 _ _ hk
  | _ => exact h

theorem abin_det {op : BinOp} {t : Nat} {x y : AV} {A : AV → Prop} (h : abin E op t x y A) : ∃ v, A v ∧ ∀ B : AV → Prop, B v → abin E op t x y B := by
  cases op <;> simp only [abin] at h ⊢
  case eql => split at h <;> first | exact h.elim | exact ⟨_, h, fun B hb => hb⟩
  case neq => split at h <;> first | exact h.elim | exact ⟨_, h, fun B hb => hb⟩
  case add =>
    split at h
    · split at h
      case isFalse => exact h.elim
      rename_i hk; exact ⟨_, h, fun B hb => by rw [if_pos hk]; exact hb⟩
    · exact ⟨_, h.2, fun B hb => ⟨h.1, hb⟩⟩
    · exact h.elim
  case sub =>
    split at h
    · split at h
      case isFalse => exact h.elim
      rename_i hk; exact ⟨_, h, fun B hb => by rw [if_pos hk]; exact hb⟩
    · exact h.elim
  case mul =>
    split at h
    · split at h
      case isFalse => exact h.elim
      rename_i hk; exact ⟨_, h, fun B hb => by rw [if_pos hk]; exact hb⟩
    · exact h.elim
  case quo =>
    split at h
    · split at h
      case isFalse => exact h.elim
      rename_i hk; exact ⟨_, h.2, fun B hb => by rw [if_pos hk]; exact ⟨h.1, hb⟩⟩
    · exact h.elim
  case rem =>
    split at h
    · split at h
      case isFalse => exact h.elim
      rename_i hk; exact ⟨_, h.2, fun B hb => by rw [if_pos hk]; exact ⟨h.1, hb⟩⟩
    · exact h.elim
  case lss =>
    split at h
    · split at h
      case isFalse => exact h.elim
      rename_i hk; exact ⟨_, h, fun B hb => by rw [if_pos hk]; exact hb⟩
    · exact ⟨_, h, fun B hb => hb⟩
    · exact h.elim
  case leq =>
    split at h
    · split at h
      case isFalse => exact h.elim
      rename_i hk; exact ⟨_, h, fun B hb => by rw [if_pos hk]; exact hb⟩
    · exact h.elim
  case gtr =>
    split at h
    · split at h
      case isFalse => exact h.elim
      rename_i hk; exact ⟨_, h, fun B hb => by rw [if_pos hk]; exact hb⟩
    · exact ⟨_, h, fun B hb => hb⟩
    · exact h.elim
  case geq =>
    split at h
    · split at h
      case isFalse => exact h.elim
      rename_i hk; exact ⟨_, h, fun B hb => by rw [if_pos hk]; exact hb⟩
    · exact h.elim

theorem ldc_det {t : Nat} {cs : List AV} {off : Nat} {A : AV → Prop} (h : ldc E t cs off A) : ∃ x, A x ∧ ∀ (cs' : List AV) (B : AV → Prop), cs.map dm = cs'.map dm → (∀ x', dm x' = dm x → B x') → ldc E t cs' off B := by
  obtain ⟨x, hx, hs, hcase⟩ := ldc_inv h
  refine ⟨x, hx, fun cs' B hcs hB => ?_⟩
  have hlen : cs'.length = cs.length := by have := congrArg List.length hcs; simpa using this.symm
  unfold ldc
  rw [if_neg hs]
  rcases hcase with ⟨h1, h2, rfl⟩ | ⟨h1, h2⟩
  · rw [if_pos h1, if_pos (by omega), frcN_eq]
    refine hB _ ?_
    have : ((cs.drop off).take (E.T t).size).map dm = ((cs'.drop off).take (E.T t).size).map dm := by
      rw [List.map_take, List.map_drop, hcs, ← List.map_drop, ← List.map_take]
    rw [this]
  · rw [if_neg (by rw [h1]; simp)]
    have hlt : off < cs'.length := by rw [hlen]; exact (List.getElem?_eq_some_iff.1 h2).1
    have : ∃ r, cs'.drop off = cs'[off] :: r := ⟨_, List.drop_eq_getElem_cons hlt⟩
    obtain ⟨r, hr⟩ := this
    simp only [hr]
    rw [frc_eq]
    refine hB _ ?_
    have h3 : (cs.map dm)[off]? = (cs'.map dm)[off]? := by rw [hcs]
    rw [List.getElem?_map, List.getElem?_map, h2, List.getElem?_eq_getElem hlt] at h3
    simp only [Option.map_some, Option.some.injEq] at h3
    exact h3.symm

theorem load_dm {K : AV → Mem → Prop} {m : Mem} (v : AV) : (match v with
    | .vec true e l c => if false = true then K (.vec true e l c) m else K (.vec false e l c) m
    | v => K v m) ↔ K (dm v) m := by
  cases v with
  | vec b e l c => cases b <;> simp [dm]
  | _ => exact Iff.rfl

theorem sim_map {a b : AObj} {es : List (AV × AV)} (h : objSim a b) (ha : a = .map es) : b = .map es := by
  rcases h with rfl | ⟨_, _, _, e, _, _⟩
  · exact ha
  · rw [ha] at e; cases e
theorem sim_cells {a b : AObj} {ver : Nat} {cs : List AV} (h : objSim a b) (ha : a = .cells ver cs) : ∃ cs', b = .cells ver cs' ∧ cs.map dm = cs'.map dm := by
  rcases h with rfl | ⟨v, c1, c2, e, e2, h3⟩
  · exact ⟨cs, ha, rfl⟩
  · rw [ha] at e; injection e with e1 e3; subst e1; subst e3; exact ⟨c2, e2, h3⟩

theorem sim_one {c : Nat} {m m' : Mem} (hc : c ≠ 0) (h : simAt c m m') : cellSim m m' := by
  rcases h with h | h | h
  · exact absurd h hc
  · exact h.cell
  · exact h.2
theorem sim_two {c : Nat} {m m' : Mem} (hc : c ≠ 0) (hc1 : c ≠ 1) (h : simAt c m m') : memSim m m' := by
  rcases h with h | h | h
  · exact absurd h hc
  · exact h
  · exact absurd h.1 hc1

/-- What only looks has one result, in all memories that are alike. -/
theorem aopC_det {E0 : Env} (he : E = E0.exact) {d : Option Nat} {tkm : Bool} {tk : Option Nat} {op : Op} {xs : List AV} (h : aopC E d tkm op xs m K) (hcl : clsC E d tkm tk op ≤ 2)
    (hx : ∀ args ats g, op = .call { callee := .value (.func g), args := args, argTypes := ats } → ∃ r, xs = .fn (.func g) [] [] :: r) :
    ∃ v, K v m ∧ ∀ m' (KK : AV → Mem → Prop), simAt (clsC E d tkm tk op) m m' → KK v m' → aopC E d tkm op xs m' KK := by
  cases op with
  | move x =>
    simp only [aopC] at h ⊢
    split at h
    · rw [frc_eq] at h; exact ⟨_, h, fun m' KK _ hk => by rw [frc_eq]; exact hk⟩
    · exact h.elim
  | assign x =>
    simp only [aopC] at h ⊢
    split at h
    · rw [frc_eq] at h; exact ⟨_, h, fun m' KK _ hk => by rw [frc_eq]; exact hk⟩
    · exact h.elim
  | pick c x y =>
    simp only [aopC] at h ⊢
    split at h
    · rename_i t a b
      cases t <;> simp only [frc_eq] at h <;> exact ⟨_, h, fun m' KK _ hk => by simp only [frc_eq]; exact hk⟩
    · exact h.elim
  | nilCheck x =>
    simp only [aopC] at h ⊢
    split at h <;> first | exact ⟨_, h, fun m' KK _ hk => hk⟩ | exact h.elim
  | binOp op t x y rt =>
    simp only [aopC] at h ⊢
    split at h
    · rename_i n hnil
      unfold nilC at hnil
      split at hnil
      case h_2 => cases hnil
      split at hnil
      case h_2 => cases hnil
      rename_i ht
      simp [clsC, ht] at hcl
    split at h
    · obtain ⟨v, h1, h2⟩ := abin_det h
      exact ⟨v, h1, fun m' KK _ hk => h2 _ hk⟩
    · exact h.elim
  | unOp op t x =>
    cases op <;> simp only [aopC] at h ⊢ <;> split at h <;> first | exact ⟨_, h, fun m' KK _ hk => hk⟩ | exact h.elim
  | build t ps =>
    simp only [aopC] at h ⊢
    split at h
    case h_2 => exact h.elim
    split at h
    · exact h.elim
    rename_i hall
    split at h
    case h_2 => exact h.elim
    rw [frcL_eq] at h
    exact ⟨_, h, fun m' KK _ hk => by rw [if_neg hall, frcL_eq]; exact hk⟩
  | buildSlice t n ps =>
    simp only [aopC] at h ⊢
    split at h
    case h_2 => exact h.elim
    split at h
    case h_2 => exact h.elim
    split at h
    case isFalse => exact h.elim
    rename_i hh
    exact ⟨_, h, fun m' KK _ hk => by rw [if_pos hh]; exact hk⟩
  | fieldAddr t x i =>
    simp only [aopC] at h ⊢
    split at h
    case h_2 => exact h.elim
    split at h
    case h_2 => exact h.elim
    split at h
    · exact h.elim
    rename_i h3
    split at h
    · exact ⟨_, h, fun m' KK _ hk => by rw [if_neg h3]; exact hk⟩
    · exact ⟨_, h, fun m' KK _ hk => by rw [if_neg h3]; exact hk⟩
    · exact h.elim
  | field t x i =>
    simp only [aopC] at h ⊢
    split at h
    case h_2 => exact h.elim
    split at h
    case h_2 => exact h.elim
    obtain ⟨v, h1, h2⟩ := ldc_det h
    exact ⟨_, h1, fun m' KK _ hk => h2 _ _ rfl fun x' hx' => by rw [hx']; exact hk⟩
  | indexAddr t x i =>
    simp only [aopC] at h ⊢
    split at h
    case h_3 => exact h.elim
    · split at h
      · exact h.elim
      rename_i h3
      obtain ⟨k1, c, k2, k3⟩ := h
      exact ⟨_, k3, fun m' KK _ hk => by rw [if_neg h3]; exact ⟨k1, c, k2, hk⟩⟩
    · split at h
      · exact h.elim
      rename_i h3
      exact ⟨_, h.2, fun m' KK _ hk => by rw [if_neg h3]; exact ⟨h.1, hk⟩⟩
  | index t x i =>
    simp only [aopC] at h ⊢
    split at h
    case h_2 => exact h.elim
    obtain ⟨k1, c, k2, k3⟩ := h
    exact ⟨_, k3, fun m' KK _ hk => ⟨k1, c, k2, hk⟩⟩
  | slice t x lo hi mx =>
    simp only [aopC] at h ⊢
    split at h
    · split at h
      case h_2 => exact h.elim
      exact ⟨_, h.2, fun m' KK _ hk => ⟨h.1, hk⟩⟩
    · split at h
      case h_2 => exact h.elim
      split at h
      · exact h.elim
      rename_i h3
      exact ⟨_, h.2, fun m' KK _ hk => by rw [if_neg h3]; exact ⟨h.1, hk⟩⟩
    · split at h
      case h_2 => exact h.elim
      split at h
      · exact h.elim
      rename_i h3
      exact ⟨_, h.2, fun m' KK _ hk => by rw [if_neg h3]; exact ⟨h.1, hk⟩⟩
    · exact h.elim
  | extract x i =>
    simp only [aopC] at h ⊢
    split at h
    case h_2 => exact h.elim
    split at h
    case h_2 => exact h.elim
    rw [frc_eq] at h
    exact ⟨_, h, fun m' KK _ hk => by rw [frc_eq]; exact hk⟩
  | load t x =>
    have htf : tkm = false := by
      cases tkm with
      | false => rfl
      | true => simp only [clsC] at hcl; split at hcl <;> omega
    subst htf
    simp only [aopC] at h ⊢
    split at h
    · obtain ⟨v, h1, h2⟩ := ldc_det h
      exact ⟨_, h1, fun m' KK _ hk => h2 _ _ rfl fun x' hx' => by rw [hx']; exact hk⟩
    · rename_i p off
      obtain ⟨bx, gs⟩ := m
      simp only at h ⊢
      split at h
      case h_2 => exact h.elim
      rename_i ver cs hbx
      obtain ⟨v, h1, h2⟩ := ldc_det h
      refine ⟨dm v, (load_dm (m := ⟨bx, gs⟩) v).1 h1, fun m' KK hsim hk => ?_⟩
      have hsim := sim_one (by simp [clsC]) hsim
      obtain ⟨cs', e1, e2⟩ := hsim.2 p ver cs hbx
      obtain ⟨bx', gs'⟩ := m'
      simp only at e1 ⊢
      simp only [e1]
      refine h2 cs' _ e2 fun x' hx' => ?_
      exact (load_dm (m := ⟨bx', gs'⟩) x').2 (by rw [hx']; exact hk)
    · rename_i id off
      split at h
      · exact h.elim
      rename_i hno
      obtain ⟨cs, hcs, h⟩ := h
      obtain ⟨v, h1, h2⟩ := ldc_det h
      refine ⟨dm v, (load_dm v).1 h1, fun m' KK hsim hk => ?_⟩
      have hsim := sim_one (by simp [clsC]) hsim
      rw [if_neg hno]
      refine ⟨cs, hsim.1 _ _ _ hcs, h2 cs _ rfl fun x' hx' => ?_⟩
      exact (load_dm x').2 (by rw [hx']; exact hk)
    · exact h.elim
  | lookup t x y ok =>
    simp only [aopC] at h ⊢
    split at h
    case h_2 => exact h.elim
    rename_i kt et l key h1
    split at h
    case h_2 => exact h.elim
    rename_i z h2
    obtain ⟨es, k1, k2, r, k3, k4⟩ := h
    have hmem : ∀ m', memSim m m' → (match l with | .loc d => m'.bx d = .map es | .obj id => m'.gs[id]? = some (.map es)) := by
      intro m' hsim
      cases l with
      | loc d => exact sim_map (hsim.2 d) k1
      | obj id => simp only at k1 ⊢; rw [hsim.1]; exact k1
    rw [frc_eq] at k4
    cases ok with
    | true =>
      refine ⟨_, k4, fun m' KK hsim hk => ⟨es, ?_, k2, r, k3, ?_⟩⟩
      · have := hmem m' (sim_two (by simp [clsC]) (by simp [clsC]) hsim)
        cases l <;> exact this
      · simp only [frc_eq]; exact hk
    | false =>
      refine ⟨_, k4, fun m' KK hsim hk => ⟨es, ?_, k2, r, k3, ?_⟩⟩
      · have := hmem m' (sim_two (by simp [clsC]) (by simp [clsC]) hsim)
        cases l <;> exact this
      · simp only [frc_eq]; exact hk
  | call c =>
    obtain ⟨callee, args, ats⟩ := c
    cases callee with
    | invoke r n => simp only [aopC] at h
    | builtin b =>
      cases b <;> try (simp only [clsC] at hcl; omega)
      case append => simp only [clsC] at hcl; split at hcl <;> omega
      case len =>
        simp only [aopC] at h ⊢
        split at h
        case h_2 => exact h.elim
        split at h
        · exact ⟨_, h, fun m' KK _ hk => hk⟩
        · exact ⟨_, h, fun m' KK _ hk => hk⟩
        · exact ⟨_, h, fun m' KK _ hk => hk⟩
        · exact ⟨_, h, fun m' KK _ hk => hk⟩
        · split at h
          case h_2 => exact h.elim
          rename_i es hes
          refine ⟨_, h, fun m' KK hsim hk => ?_⟩
          have := sim_map ((sim_two (by simp [clsC]) (by simp [clsC]) hsim).2 _) hes
          simp only [this]; exact hk
        · obtain ⟨es, k1, k2⟩ := h
          refine ⟨_, k2, fun m' KK hsim hk => ⟨es, ?_, hk⟩⟩
          rw [(sim_two (by simp [clsC]) (by simp [clsC]) hsim).1]; exact k1
        · exact h.elim
    | value fo =>
      cases fo with
      | func g0 =>
        obtain ⟨r, rfl⟩ := hx _ _ _ rfl
        have hro : E.ro g0 = true := by
          simp only [clsC] at hcl
          cases hoa : E.oa g0 <;> cases hro : E.ro g0 <;> rw [hoa, hro] at hcl <;> simp only at hcl <;> first | rfl | omega
        simp only [aopC] at h ⊢
        split at h
        case isFalse => exact h.elim
        rename_i h1
        rw [frcL_eq] at h
        simp only [hro, if_true] at h ⊢
        subst he
        obtain ⟨v, gs', q1, q2, q3⟩ := h
        rw [frc_eq] at q3
        refine ⟨v, q3, fun m' KK hsim hk => ?_⟩
        have hcl2 : clsC E0.exact d tkm tk (.call { callee := .value (.func g0), args := args, argTypes := ats }) = 2 := by
          have hoa : E0.exact.oa g0 = false := by
            simp only [clsC] at hcl
            cases hoa : E0.exact.oa g0 <;> rw [hoa] at hcl <;> simp only at hcl <;> first | rfl | omega
          simp only [clsC]
          rw [hoa, hro]
        have hsim := sim_two (by rw [hcl2]; omega) (by rw [hcl2]; omega) hsim
        rw [if_pos h1, frcL_eq, hsim.1]
        exact ⟨v, gs', q1, q2, by rw [frc_eq]; exact hk⟩
      | _ => simp only [clsC] at hcl; omega
  | _ => simp only [clsC] at hcl; omega
end
end Go.Proofs.YtjchgncgkhofhaaGreat.AL
/- The A-logic: regions whose order is drawn: one order stands for all. -/
set_option linter.unusedVariables false
set_option linter.unusedSimpArgs false
namespace Go.Proofs.YtjchgncgkhofhaaGreat.AL
open Go

/-- Is an operation wanted? -/
def gst (all : List Oper) (o : Oper) (f : Nat → AV) : Option Bool :=
  match o.guard with
  | none => some true
  | some (j, want) => match gslot all j with
    | some g => match f g with
      | .sc (.bool b) => some (b == want)
      | .sc (.tuple _) => some false
      | _ => none
    | none => none

section
variable {E : Env} {all : List Oper} {o : Oper} {m : Mem} {f : Nat → AV} {K : ASt → Prop}

theorem astep_eq : astep E all o ⟨f, m⟩ K ↔ (match gst all o f with | some true => AO E all o f m K | some false => K ⟨finF false m.bx o.dst (.sc (.tuple #[])) f, m⟩ | none => False) := by
  unfold astep gst
  cases hg : o.guard with
  | none => simp only [aop_eq]
  | some gw =>
    obtain ⟨j, want⟩ := gw
    simp only
    cases hs : gslot all j with
    | none => exact Iff.rfl
    | some g =>
      simp only
      cases hf : f g with
      | sc v => cases v with
        | bool b => cases b <;> cases want <;> simp only [upd_lit hf, aop_eq, fin_eq] <;> exact Iff.rfl
        | tuple u => simp only [fin_eq]
        | _ => exact Iff.rfl
      | _ => exact Iff.rfl

def putF (d : Option Nat) (v : AV) (f : Nat → AV) : Nat → AV := match d with | none => f | some d => upd f d v
theorem finF_false {bx : Nat → AObj} {d : Option Nat} {v : AV} {f : Nat → AV} : finF false bx d v f = putF d v f := by cases d <;> rfl

theorem clsC_tk {d : Option Nat} {tkm : Bool} {o : Oper} (hc : clsC E d tkm (tki E all o) o.op ≤ 2) : tki E all o = none ∧ isMk o.op = false := by
  cases ho : o.op with
  | move x =>
    rw [ho] at hc
    refine ⟨?_, rfl⟩
    cases h : tki E all o with
    | none => rfl
    | some _ => rw [h] at hc; simp [clsC] at hc
  | assign x =>
    rw [ho] at hc
    refine ⟨?_, rfl⟩
    cases h : tki E all o with
    | none => rfl
    | some _ => rw [h] at hc; simp [clsC] at hc
  | call c =>
    obtain ⟨callee, args, ats⟩ := c
    rw [ho] at hc
    refine ⟨?_, rfl⟩
    unfold tki
    rw [ho]
    cases callee with
    | builtin b => cases b <;> first | (simp_all [clsC]; done) | (exfalso; simp only [clsC] at hc; split at hc <;> omega)
    | value fo => cases fo with
      | func g =>
        simp only [clsC] at hc
        cases hoa : E.oa g with
        | false => simp [hoa]
        | true => rw [hoa] at hc; simp at hc
      | _ => rfl
    | _ => rfl
  | _ =>
    rw [ho] at hc
    first
      | (exfalso; simp only [clsC] at hc; omega)
      | exact ⟨by unfold tki; rw [ho], rfl⟩

def clsO (E : Env) (all : List Oper) (o : Oper) : Nat := clsC E o.dst (tkl E all o) (tki E all o) o.op

/-- Slots that an operation looks at hold the same, but for rights. -/
def slotSim (ops : Array Oper) (o : Oper) (f f' : Nat → AV) : Prop := ∀ t ∈ o.looksAt ops, dm (f' t) = dm (f t)

theorem evo_sim {ops : Array Oper} {f f' : Nat → AV} (h : slotSim ops o f f') {x : Operand} (hx : x ∈ o.op.operands.toList) : dm (evo f' x) = dm (evo f x) := by
  cases x with
  | tmp t =>
    refine h t ?_
    unfold Oper.looksAt
    exact List.mem_append_left _ (List.mem_filterMap.2 ⟨.tmp t, hx, rfl⟩)
  | _ => rfl
theorem gst_sim {ops : Array Oper} {f f' : Nat → AV} (h : slotSim ops o f f') : gst ops.toList o f' = gst ops.toList o f := by
  unfold gst
  cases hg : o.guard with
  | none => rfl
  | some gw =>
    obtain ⟨j, want⟩ := gw
    simp only
    cases hs : gslot ops.toList j with
    | none => rfl
    | some g =>
      simp only
      have := h g (by
        unfold Oper.looksAt
        refine List.mem_append_right _ ?_
        rw [gslot_eq] at hs
        simp [hg, hs])
      cases h1 : f g with
      | sc v =>
        rw [h1] at this
        rw [dm_sc this]
      | _ =>
        rw [h1] at this
        cases h2 : f' g <;> rw [h2] at this <;> simp [dm] at this <;> rfl

theorem call_head {tk : Option Nat} (f : Nat → AV) : ∀ args ats g, o.op = .call { callee := .value (.func g), args := args, argTypes := ats } → ∃ r, opvs f tk 0 o.op.operands.toList = .fn (.func g) [] [] :: r := by
  intro args ats g ho
  rw [ho]
  have : (Op.call { callee := .value (.func g), args := args, argTypes := ats }).operands.toList = .func g :: args.toList := by simp [Op.operands, Call.operands]
  rw [this]
  exact ⟨_, by simp only [opvs]; split <;> rfl⟩

/-- What only looks yields one value, in all states that are alike. -/
theorem astep_det {E0 : Env} (he : E = E0.exact) {ops : Array Oper} (hc : clsO E ops.toList o ≤ 2) {st : ASt} (h : astep E ops.toList o st K) :
    ∃ v, K ⟨putF o.dst v st.f, st.m⟩ ∧ ∀ st' : ASt, slotSim ops o st.f st'.f → simAt (clsO E ops.toList o) st.m st'.m → ∀ KK : ASt → Prop, KK ⟨putF o.dst v st'.f, st'.m⟩ → astep E ops.toList o st' KK := by
  obtain ⟨f, m⟩ := st
  rw [astep_eq] at h
  obtain ⟨htk, hmk⟩ := clsC_tk (E := E) (all := ops.toList) hc
  cases hg : gst ops.toList o f with
  | none => rw [hg] at h; exact h.elim
  | some b =>
    rw [hg] at h
    cases b with
    | false =>
      simp only [finF_false] at h
      refine ⟨_, h, fun st' hs hm KK hk => ?_⟩
      obtain ⟨f', m'⟩ := st'
      rw [astep_eq, gst_sim hs, hg]
      simp only [finF_false]; exact hk
    | true =>
      simp only at h
      unfold AO at h
      obtain ⟨v, h1, h2⟩ := aopC_det he h hc (call_head f)
      rw [hmk, finF_false, htk] at h1
      refine ⟨v, h1, fun st' hs hm KK hk => ?_⟩
      obtain ⟨f', m'⟩ := st'
      rw [astep_eq, gst_sim hs, hg]
      simp only
      unfold AO
      have hop : opvs f' (tki E ops.toList o) 0 o.op.operands.toList = opvs f (tki E ops.toList o) 0 o.op.operands.toList := by
        rw [htk, opvs_none, opvs_none]
        exact List.map_congr_left fun x hx => evo_sim hs hx
      rw [hop]
      refine h2 m' _ hm ?_
      rw [hmk, finF_false, htk]
      exact hk

theorem opvs_congr {tk : Option Nat} {f f' : Nat → AV} : ∀ (l : List Operand) (k : Nat), (∀ x ∈ l, evo f' x = evo f x) → opvs f' tk k l = opvs f tk k l
  | [], _, _ => rfl
  | x :: l, k, h => by
    simp only [opvs]
    rw [h x (by simp), opvs_congr l (k + 1) fun y hy => h y (by simp [hy])]

theorem putF_ne {d : Option Nat} {v : AV} {f : Nat → AV} {t : Nat} (h : d ≠ some t) : putF d v f t = f t := by
  cases d with
  | none => rfl
  | some d => exact upd_ne _ _ (fun e => h (by rw [e]))
theorem putF_comm {d e : Option Nat} {v u : AV} {f : Nat → AV} (h : ∀ x, d = some x → e ≠ some x) : putF e u (putF d v f) = putF d v (putF e u f) := by
  cases d with
  | none => rfl
  | some d => cases e with
    | none => rfl
    | some e =>
      have hne : e ≠ d := fun q => h d rfl (by rw [q])
      funext t
      simp only [putF, upd]
      by_cases h1 : t = e
      · subst h1; simp [hne]
      · simp [h1]

theorem clr_put {d : Option Nat} {v : AV} {f : Nat → AV} {tk : Option Nat} {xs : List Operand} (h : ∀ t, d = some t → Operand.tmp t ∉ xs) : clr (putF d v f) tk xs = putF d v (clr f tk xs) := by
  unfold clr
  cases tk with
  | none => rfl
  | some k =>
    simp only
    cases hx : xs[k]? with
    | none => rfl
    | some x => cases x with
      | tmp t =>
        simp only
        have hne : d ≠ some t := fun e => h t e (List.mem_of_getElem? hx)
        rw [putF_ne hne]
        cases hf : f t with
        | vec b e n c => cases b with
          | true =>
            simp only
            exact (putF_comm (d := d) (e := some t) (f := f) (fun x hx => by rw [hx] at hne; exact fun q => hne q.symm)) 
          | false => rfl
        | _ => rfl
      | _ => rfl
theorem clr_dm {f : Nat → AV} {tk : Option Nat} {xs : List Operand} (t : Nat) : dm (clr f tk xs t) = dm (f t) := by
  unfold clr
  cases tk with
  | none => rfl
  | some k =>
    simp only
    cases xs[k]? with
    | none => rfl
    | some x => cases x with
      | tmp s =>
        simp only
        cases hf : f s with
        | vec b e l c => cases b with
          | true =>
            simp only
            by_cases hts : t = s
            · subst hts; rw [upd_at, hf]; rfl
            · rw [upd_ne _ _ hts]
          | false => rfl
        | _ => rfl
      | _ => rfl

/-- Another operation does the same ahead of a look as behind it, and leaves the look as it is. -/
theorem astep_comm {E0 : Env} (he : E = E0.exact) {ops : Array Oper} {i j : Oper} (hap : i.apart ops j = true) (hmk : isMk j.op = false)
    (hcl : clsO E ops.toList i = 0 ∨ clsO E ops.toList j ≤ 3 ∨ (clsO E ops.toList i = 1 ∧ clsO E ops.toList j ≤ 4)) {v : AV} {st : ASt} (h : astep E ops.toList j ⟨putF i.dst v st.f, st.m⟩ K) :
    astep E ops.toList j st fun st' => (slotSim ops i st.f st'.f ∧ simAt (clsO E ops.toList i) st.m st'.m) ∧ K ⟨putF i.dst v st'.f, st'.m⟩ := by
  obtain ⟨f, m⟩ := st
  obtain ⟨h1, h2, h3⟩ := Oper.apart_spec hap
  have hC : ∀ g args gs A B, E.C g args gs A → (∀ v gs, A v gs → B v gs) → E.C g args gs B := by
    subst he
    rintro g args gs A B ⟨v, gs', q1, q2⟩ hab
    exact ⟨v, gs', q1, hab _ _ q2⟩
  have hnop : ∀ t, i.dst = some t → Operand.tmp t ∉ j.op.operands.toList := by
    intro t ht hm
    refine h1 t ht ?_
    unfold Oper.looksAt
    exact List.mem_append_left _ (List.mem_filterMap.2 ⟨.tmp t, hm, rfl⟩)
  have hgst : gst ops.toList j (putF i.dst v f) = gst ops.toList j f := by
    refine gst_sim (fun t ht => ?_)
    rw [putF_ne (fun e => h1 t e ht)]
  have hslot : ∀ (u : AV) (f1 : Nat → AV), (∀ t, dm (f1 t) = dm (f t)) → slotSim ops i f (putF j.dst u f1) := by
    intro u f1 hf1 t ht
    rw [putF_ne (fun e => h3 t e ht)]
    exact hf1 t
  rw [astep_eq] at h ⊢
  rw [hgst] at h
  cases hg : gst ops.toList j f with
  | none => rw [hg] at h; exact h.elim
  | some b =>
    rw [hg] at h
    cases b with
    | false =>
      simp only [finF_false] at h ⊢
      refine ⟨⟨hslot _ _ (fun _ => rfl), .inr (.inl (.refl m))⟩, ?_⟩
      rw [putF_comm h2] at h
      exact h
    | true =>
      simp only at h ⊢
      unfold AO at h ⊢
      have hop : opvs (putF i.dst v f) (tki E ops.toList j) 0 j.op.operands.toList = opvs f (tki E ops.toList j) 0 j.op.operands.toList := by
        refine opvs_congr _ _ fun x hx => ?_
        cases x with
        | tmp t => exact putF_ne (fun e => hnop t e hx)
        | _ => rfl
      rw [hop] at h
      refine aopC_imp hC h (call_head f) (tk := tki E ops.toList j) fun u m' hm1 hm2 hk => ?_
      rw [hmk, finF_false] at hk ⊢
      rw [clr_put hnop, putF_comm h2] at hk
      refine ⟨⟨hslot _ _ (fun t => clr_dm t), ?_⟩, hk⟩
      rcases hcl with q | q | ⟨q1, q2⟩
      · exact .inl q
      · exact .inr (.inl (hm1 q))
      · exact .inr (.inr ⟨q1, hm2 q2⟩)
end
end Go.Proofs.YtjchgncgkhofhaaGreat.AL
