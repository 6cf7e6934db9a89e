/- The A-logic: the operations, one by one (tests, numbers, strings, parts): the steps. -/
import Derived.Test.YtjchgncgkhofhaaGreatM2
import Derived.Laws.IdiomStrings
set_option linter.unusedVariables false
set_option linter.unusedSimpArgs false
namespace Go.Proofs.YtjchgncgkhofhaaGreat.AL
open Go
section
variable {P : Program} {E : Env} {all : List Oper} {o : Oper} {m : Mem} {f : Nat → AV} {a : Act} {w : World} {L : Nat → Nat} {G : Gh} {ow : Nat → Option Pos} {K : ASt → Prop} {Q : Exit → Act → World → Prop}

theorem ty_eqc (hE : EOk P E) {t : Nat} {ks : List FK} (h : (E.T t).eqc = some ks) : P.eqGuardType P.depth t = false ∧ eqcOf P 40 t = some ks := by
  rcases ty_all hE t with ⟨i, d, hi, hd, k⟩ | k <;> rw [k] at h
  · simp only [tyOf, hi, hd] at h
    split at h
    · cases h
    · rename_i hg; exact ⟨by simpa using hg, h⟩
  · cases h
theorem ty_bool (hE : EOk P E) {t : Nat} (h : (E.T t).ty = .bool) : P.underlying t = some .bool := by
  rcases ty_all hE t with ⟨i, d, hi, hd, k⟩ | k <;> rw [k] at h
  · simp only [tyOf, hi, hd] at h
    cases d <;> simp at h
    exact hd
  · cases h

/-- What '==' says of two abstract values is what the machine finds. -/
theorem avEq_run (hE : EOk P E) {t : Nat} {x y : AV} {v u : Value} {b : Bool} {c : Wz} (h : avEq E t x y = some b) (hx : R c x v) (hy : R c y u) :
    (Op.equalIn 10000 t v u).run P w = .ok b w ∧ (∀ op xo yo, (eqGuard op t xo yo v u).run P w = .ok () w) ∧
    (binOp .eql t v u).run P w = .ok (.bool b) w ∧ (binOp .neq t v u).run P w = .ok (.bool (!b)) w := by
  have scal : ∀ k : FK, fkEq k x y = some b → (∃ D, P.underlying t = some D ∧ fkTy D k) → (Op.equalIn 10000 t v u).run P w = .ok b w ∧ (∀ op xo yo, (eqGuard op t xo yo v u).run P w = .ok () w) ∧
      (binOp .eql t v u).run P w = .ok (.bool b) w ∧ (binOp .neq t v u).run P w = .ok (.bool (!b)) w := by
    intro k hk ⟨D, hD, hfk⟩
    have h1 := fk_eq_run (P := P) (d := 9999) (w := w) hD hfk hx hy hk
    refine ⟨h1, ?_, ?_, ?_⟩
    · intro op xo yo
      rcases fkEq_R hk hx hy with ⟨i, p, q, rfl, rfl, rfl, rfl⟩ | ⟨p, q, rfl, rfl, rfl, rfl⟩ | ⟨p, q, rfl, rfl, rfl, rfl⟩ <;> cases op <;> rfl
    · rcases fkEq_R hk hx hy with ⟨i, p, q, rfl, rfl, rfl, rfl⟩ | ⟨p, q, rfl, rfl, rfl, rfl⟩ | ⟨p, q, rfl, rfl, rfl, rfl⟩
      · rw [binOp_eql]; rfl
      · simp only [binOp, Op.stringOp, Sem.run_pure]
        rw [← beq_toListBytes, beq_bytes]
      · simp only [binOp, Op.equal, Op.maxDepth, Sem.run_bind, h1, Result.andThen_ok, Sem.run_pure]
    · rcases fkEq_R hk hx hy with ⟨i, p, q, rfl, rfl, rfl, rfl⟩ | ⟨p, q, rfl, rfl, rfl, rfl⟩ | ⟨p, q, rfl, rfl, rfl, rfl⟩
      · rw [binOp_neq]; rfl
      · simp only [binOp, Op.stringOp, Sem.run_pure]
        rw [← beq_toListBytes, beq_bytes]
      · simp only [binOp, Op.equal, Op.maxDepth, Sem.run_bind, h1, Result.andThen_ok, Sem.run_pure]
  have sl : ∀ (e : TypeId) (A : Option Addr) (n k n' k' : Nat), P.underlying t = some (.slice e) → b = A.isNone → v = .slice A n k → u = .slice none n' k' → (Op.equalIn 10000 t v u).run P w = .ok b w ∧ (∀ op xo yo, (eqGuard op t xo yo v u).run P w = .ok () w) ∧
      (binOp .eql t v u).run P w = .ok (.bool b) w ∧ (binOp .neq t v u).run P w = .ok (.bool (!b)) w := by
    intro e A n k n' k' ht hb hv hu
    subst hb hv hu
    have h1 : ∀ d, (Op.equalIn (d + 1) t (.slice A n k) (.slice none n' k')).run P w = .ok A.isNone w := by
      intro d
      cases A <;> simp [Op.equalIn, run_underlying ht]
    have h1 := h1 9999
    refine ⟨h1, fun op xo yo => by cases op <;> rfl, ?_, ?_⟩ <;>
    simp only [binOp, Op.equal, Op.maxDepth, Sem.run_bind, h1, Result.andThen_ok, Sem.run_pure]
  unfold avEq at h
  split at h
  · rename_i e a1 b1 a2 b2 ht
    injection h with h
    simp only [R] at hx hy
    exact sl e none _ _ _ _ (ty_slice hE ht) h.symm hx hy
  · rename_i e l _ _ _ _ _ ht
    injection h with h
    cases l with
    | loc _ => simp [R] at hx
    | obj _ =>
      simp only [R] at hx hy
      obtain ⟨ad, hv, _⟩ := hx
      exact sl e (some _) _ _ _ _ (ty_slice hE ht) h.symm hv hy
  · rename_i fs a1 b1 ht
    split at h
    case h_2 => cases h
    rename_i ks hks
    obtain ⟨hg, hq⟩ := ty_eqc hE hks
    obtain ⟨Fs, hF, _⟩ := ty_struct hE ht
    simp only [R] at hx hy
    obtain ⟨vs, rfl, hvs⟩ := hx
    obtain ⟨us, rfl, hus⟩ := hy
    have h1 := eq_run (P := P) 40 10000 (by omega) t ks hq (.agg vs.toArray) (.agg us.toArray) a1 b1 b c w (by simp [shaped, hF]) (by simp [shaped, hF]) (by simpa [Value.cells] using hvs) (by simpa [Value.cells] using hus) h
    refine ⟨h1, fun op xo yo => run_eqGuard_agg w op t xo yo _ _ hg, ?_, ?_⟩
    · rw [run_eql_struct, h1]; rfl
    · rw [run_neq_struct, h1]; rfl
  · rename_i k x' y' ht; exact scal _ h ⟨_, ty_int hE ht, rfl⟩
  · rename_i x' y' ht; exact scal _ h ⟨_, ty_str hE ht, rfl⟩
  · rename_i x' y' ht; exact scal _ h ⟨_, ty_bool hE ht, rfl⟩
  · cases h

theorem bin_run (hE : EOk P E) {op : BinOp} {t : Nat} {x y : AV} {v u : Value} {c : Wz} {xo yo : Operand} {KK : AV → Prop} (h : abin E op t x y KK) (hx : R c x v) (hy : R c y u) :
    ∃ z r, KK z ∧ (do eqGuard op t xo yo v u; binOp op t v u : Sem Value).run P w = .ok r w ∧ R c z r ∧ notFl z := by
  have sc : ∀ {r : Value} {K : AV → Prop}, K (.sc r) → (eqGuard op t xo yo v u).run P w = .ok () w → (binOp op t v u).run P w = .ok r w → ∃ z r, K z ∧ (do eqGuard op t xo yo v u; binOp op t v u : Sem Value).run P w = .ok r w ∧ R c z r ∧ notFl z :=
    fun {r K} hk hg hr => ⟨.sc r, r, hk, by rw [Sem.run_bind, hg, Result.andThen_ok]; exact hr, by simp [R], trivial⟩
  cases op <;> simp only [abin] at h
  case eql =>
    split at h
    case h_2 => exact h.elim
    rename_i b hb
    obtain ⟨_, h2, h3, _⟩ := avEq_run (w := w) hE hb hx hy
    exact sc h (h2 _ _ _) h3
  case neq =>
    split at h
    case h_2 => exact h.elim
    rename_i b hb
    obtain ⟨_, h2, _, h3⟩ := avEq_run (w := w) hE hb hx hy
    exact sc h (h2 _ _ _) h3
  case add =>
    split at h
    · rename_i k p k' q
      split at h
      case isFalse => exact h.elim
      rename_i hk; subst hk
      simp only [R] at hx hy; subst hx hy
      exact sc h rfl (by rw [binOp_add]; rfl)
    · rename_i p q
      simp only [R] at hx hy; subst hx hy
      obtain ⟨h1, h2⟩ := h
      refine sc h2 rfl ?_
      have : ¬ (((p.size + q.size : Nat) : Int) > IntKind.i64.max) := by
        show ¬ (((p.size + q.size : Nat) : Int) > 9223372036854775807)
        omega
      simp only [binOp, Op.stringOp, if_neg this, Sem.run_pure]
    · exact h.elim
  case sub =>
    split at h
    · rename_i k p k' q
      split at h
      case isFalse => exact h.elim
      rename_i hk; subst hk
      simp only [R] at hx hy; subst hx hy
      exact sc h rfl (by rw [binOp_sub]; rfl)
    · exact h.elim
  case mul =>
    split at h
    · rename_i k p k' q
      split at h
      case isFalse => exact h.elim
      rename_i hk; subst hk
      simp only [R] at hx hy; subst hx hy
      exact sc h rfl (by rw [binOp_mul]; rfl)
    · exact h.elim
  case quo =>
    split at h
    · rename_i k p k' q
      split at h
      case isFalse => exact h.elim
      rename_i hk; subst hk
      simp only [R] at hx hy; subst hx hy
      exact sc h.2 rfl (by rw [binOp_quo, Op.intDiv, if_neg h.1]; rfl)
    · exact h.elim
  case rem =>
    split at h
    · rename_i k p k' q
      split at h
      case isFalse => exact h.elim
      rename_i hk; subst hk
      simp only [R] at hx hy; subst hx hy
      exact sc h.2 rfl (by rw [binOp_rem, Op.intDiv, if_neg h.1]; rfl)
    · exact h.elim
  case lss =>
    split at h
    · rename_i k p k' q
      split at h
      case isFalse => exact h.elim
      rename_i hk; subst hk
      simp only [R] at hx hy; subst hx hy
      exact sc h rfl (by rw [binOp_lss]; rfl)
    · simp only [R] at hx hy; subst hx hy
      exact sc h rfl rfl
    · exact h.elim
  case leq =>
    split at h
    · rename_i k p k' q
      split at h
      case isFalse => exact h.elim
      rename_i hk; subst hk
      simp only [R] at hx hy; subst hx hy
      exact sc h rfl (by rw [binOp_leq]; rfl)
    · exact h.elim
  case gtr =>
    split at h
    · rename_i k p k' q
      split at h
      case isFalse => exact h.elim
      rename_i hk; subst hk
      simp only [R] at hx hy; subst hx hy
      exact sc h rfl (by rw [binOp_gtr]; rfl)
    · simp only [R] at hx hy; subst hx hy
      exact sc h rfl rfl
    · exact h.elim
  case geq =>
    split at h
    · rename_i k p k' q
      split at h
      case isFalse => exact h.elim
      rename_i hk; subst hk
      simp only [R] at hx hy; subst hx hy
      exact sc h rfl (by rw [binOp_geq]; rfl)
    · exact h.elim

/-- Both operands of '==' lie in slots: what is told of local boxes there is not compared. -/
theorem RS_plain {c : Wz} {bx : Nat → AObj} {x : AV} {v : Value} (h : RS c bx L x v) (hx : okv x = true) : R c x v := R_of_RS h hx

theorem abin_ok {op : BinOp} {t : Nat} {x y : AV} {KK : AV → Prop} {c : Wz} {bx : Nat → AObj} {v : Value} (h : abin E op t x y KK) (hx : RS c bx L x v) : okv x = true ∧ okv y = true := by
  have av : ∀ b, avEq E t x y = some b → okv x = true ∧ okv y = true := by
    intro b hb
    unfold avEq at hb
    have fk : ∀ k, fkEq k x y = some b → okv x = true ∧ okv y = true := by
      intro k hk
      unfold fkEq at hk
      split at hk <;> first | exact ⟨rfl, rfl⟩ | cases hk
    split at hb
    · exact ⟨rfl, rfl⟩
    · rename_i l _ _ _ _ _ _
      cases l with
      | loc _ => exact hx.elim
      | obj _ => exact ⟨rfl, rfl⟩
    · exact ⟨rfl, rfl⟩
    · exact fk _ hb
    · exact fk _ hb
    · exact fk _ hb
    · cases hb
  cases op <;> simp only [abin] at h
  case eql => split at h <;> first | exact av _ (by assumption) | exact h.elim
  case neq => split at h <;> first | exact av _ (by assumption) | exact h.elim
  all_goals first | exact h.elim | (split at h <;> first | exact ⟨rfl, rfl⟩ | exact h.elim)
end
end Go.Proofs.YtjchgncgkhofhaaGreat.AL
/- The A-logic: the operations, one by one (numbers, strings, addresses, parts of slices): the steps. -/
set_option linter.unusedVariables false
set_option linter.unusedSimpArgs false
namespace Go.Proofs.YtjchgncgkhofhaaGreat.AL
open Go
section
variable {P : Program} {E : Env} {all : List Oper} {o : Oper} {m : Mem} {f : Nat → AV} {a : Act} {w : World} {L : Nat → Nat} {G : Gh} {ow : Nat → Option Pos} {K : ASt → Prop} {Q : Exit → Act → World → Prop}

theorem s_binOp (hE : EOk P E) {op : BinOp} {t rt : Nat} {x y : Operand} (ho : o.op = .binOp op t x y rt) (hA : AO E all o f m K) (h : HRel m f (vals a) w L G ow) (hd : ∀ x, o.dst = some x → x < a.tmps.size) : o.wp P a w (Fin a w G K) Q := by
  have htk : tki E all o = none := by simp [tki, ho]
  unfold AO at hA
  rw [htk, ho] at hA
  simp only [Op.operands, opvs_none, List.map_cons, List.map_nil, isMk, clr, aopC] at hA
  have hx := RS_dm (ev_rs h x)
  have hy := RS_dm (ev_rs h y)
  split at hA
  · rename_i n hnil
    unfold nilC at hnil
    split at hnil
    case h_2 => cases hnil
    split at hnil
    case h_2 => cases hnil
    rename_i e b es n' cs ht hxs
    injection hnil with hnil; subst hnil
    injection hxs with e1 hxs
    injection hxs with e2 _
    rw [e1] at hx; rw [e2] at hy
    have hx := R_of_RS hx rfl
    have hy := R_of_RS hy rfl
    have hty := ty_slice hE ht
    simp only [R] at hx hy
    have fin : ∀ (A : Option Addr) (k j : Nat), a.eval x = .slice A k j → K ⟨finF false m.bx o.dst (.sc (.bool A.isNone)) f, m⟩ → o.wp P a w (Fin a w G K) Q := by
      intro A k j hv hk
      have h1 : ∀ d, (Op.equalIn (d + 1) t (.slice A k j) (.slice none 0 0)).run P w = .ok A.isNone w := by
        intro d
        cases A <;> simp [Op.equalIn, run_underlying hty]
      have h1 := h1 9999
      have h2 : (eqGuard .eql t x y (.slice A k j) (.slice none 0 0)).run P w = .ok () w := rfl
      have h3 : (binOp .eql t (.slice A k j) (.slice none 0 0)).run P w = .ok (.bool A.isNone) w := by
        simp only [binOp, Op.equal, Op.maxDepth, Sem.run_bind, h1, Result.andThen_ok, Sem.run_pure]
      exact wp_value (v := .bool A.isNone) (w' := w) (by
        simp only [execOp, ho, hv, hy, Sem.run_bind, h2, Result.andThen_ok, Sem.run_pure, h3]) (fin_plain h hd (.refl _) (RS_of_R (x := .sc (.bool A.isNone)) (by simp [R])) trivial hk)
    rcases hx with ⟨ad, cap, hv, _⟩ | ⟨h0, _, A, hv, _⟩
    · exact fin (some ad) _ _ hv hA.2
    · cases A with
      | none => exact fin none _ _ hv (hA.1 h0)
      | some ad => exact fin (some ad) _ _ hv hA.2
  obtain ⟨k1, k2⟩ := abin_ok hA hx
  obtain ⟨z, r, hk, hrun, hz, hn⟩ := bin_run (P := P) (w := w) (xo := x) (yo := y) hE hA (R_of_RS hx k1) (R_of_RS hy k2)
  exact wp_value (v := r) (w' := w) (by
    simp only [execOp, ho, Sem.run_bind, Result.andThen_ok, Sem.run_pure] at hrun ⊢
    rw [hrun]; rfl) (fin_plain h hd (.refl _) (RS_of_R hz) hn hk)

theorem s_nilCheck {x : Operand} (ho : o.op = .nilCheck x) (hA : AO E all o f m K) (h : HRel m f (vals a) w L G ow) (hd : ∀ x, o.dst = some x → x < a.tmps.size) : o.wp P a w (Fin a w G K) Q := by
  have htk : tki E all o = none := by simp [tki, ho]
  unfold AO at hA
  rw [htk, ho] at hA
  simp only [Op.operands, opvs_none, List.map_cons, List.map_nil, isMk, clr] at hA
  have hrs := ev_rs h x
  generalize hc : dm (evo f x) = xc at hA
  cases xc with
  | pp l off =>
    rw [dm_pp hc] at hrs
    have : ∃ ad, a.eval x = .pointer (some ad) := by
      cases l with
      | loc p => exact ⟨_, hrs.2⟩
      | obj id => simp only [RS, R] at hrs; obtain ⟨b, hb, _⟩ := hrs; exact ⟨_, hb⟩
    obtain ⟨ad, he⟩ := this
    exact wp_value (v := a.eval x) (w' := w) (by simp [execOp, ho, he]) (fin_plain h hd (.refl _) hrs trivial hA)
  | cp c off =>
    rw [dm_cp hc] at hrs
    have hrs' := hrs
    simp only [RS, R] at hrs
    obtain ⟨ad, he, _⟩ := hrs
    exact wp_value (v := a.eval x) (w' := w) (by simp [execOp, ho, he]) (fin_plain h hd (.refl _) hrs' trivial hA)
  | fn g b c =>
    rw [dm_fn hc] at hrs
    have hrs' := hrs
    simp only [RS, R] at hrs
    obtain ⟨as, bs, he, _⟩ := hrs
    cases g with
    | func g =>
      exact wp_value (v := a.eval x) (w' := w) (by simp [execOp, ho, he]) (fin_plain h hd (.refl _) hrs' trivial hA)
    | _ => exact hA.elim
  | _ => exact hA.elim

theorem s_unOp {op : UnOp} {t : Nat} {x : Operand} (ho : o.op = .unOp op t x) (hA : AO E all o f m K) (h : HRel m f (vals a) w L G ow) (hd : ∀ x, o.dst = some x → x < a.tmps.size) : o.wp P a w (Fin a w G K) Q := by
  have htk : tki E all o = none := by simp [tki, ho]
  unfold AO at hA
  rw [htk, ho] at hA
  simp only [Op.operands, opvs_none, List.map_cons, List.map_nil, isMk, clr] at hA
  have hrs := ev_rs h x
  generalize hc : dm (evo f x) = xc at hA
  cases op with
  | not =>
    cases xc with
    | sc v => cases v with
      | bool b =>
        rw [dm_sc hc] at hrs
        have he := RS_sc hrs
        exact wp_value (v := .bool (!b)) (w' := w) (by simp [execOp, ho, he, Op.unary]) (fin_plain (x := .sc (.bool (!b))) h hd (.refl _) (by simp [RS, R]) trivial hA)
      | _ => exact hA.elim
    | _ => exact hA.elim
  | neg =>
    cases xc with
    | sc v => cases v with
      | int k n =>
        rw [dm_sc hc] at hrs
        have he := RS_sc hrs
        exact wp_value (v := .int k (k.wrap (0 - n))) (w' := w) (by simp [execOp, ho, he, Op.unary, Op.intArith]) (fin_plain (x := .sc (.int k (k.wrap (0 - n)))) h hd (.refl _) (by simp [RS, R]) trivial hA)
      | _ => exact hA.elim
    | _ => exact hA.elim
  | _ => exact hA.elim

theorem s_extract {x : Operand} {i : Nat} (ho : o.op = .extract x i) (hA : AO E all o f m K) (h : HRel m f (vals a) w L G ow) (hd : ∀ x, o.dst = some x → x < a.tmps.size) : o.wp P a w (Fin a w G K) Q := by
  have htk : tki E all o = none := by simp [tki, ho]
  unfold AO at hA
  rw [htk, ho] at hA
  simp only [Op.operands, opvs_none, List.map_cons, List.map_nil, isMk, clr] at hA
  have hrs := ev_rs h x
  generalize hc : dm (evo f x) = xc at hA
  cases xc with
  | tup vs =>
    rw [dm_tup hc] at hrs
    simp only [RS, R] at hrs
    obtain ⟨us, he, hr⟩ := hrs
    simp only [aopC] at hA
    split at hA
    case h_2 => exact hA.elim
    rename_i v hv
    rw [frc_eq] at hA
    obtain ⟨u, hu, hRu⟩ := RL_get _ _ hr i v hv
    exact wp_value (v := u) (w' := w) (by simp [execOp, ho, he, Instr.extract, hu]) (fin_plain h hd (.refl _) (RS_of_R (R_dm hRu)) (notFl_dm _) hA)
  | _ => exact hA.elim

theorem RL_evs (h : HRel m f (vals a) w L G ow) : ∀ xs : List Operand, (xs.map fun x => dm (evo f x)).all okv = true → RL (G.wz w) (xs.map fun x => dm (evo f x)) (xs.map a.eval)
  | [], _ => RL_nil
  | x :: xs, hok => by
    simp only [List.map_cons, List.all_cons, Bool.and_eq_true] at hok
    exact RL_cons.2 ⟨R_of_RS (RS_dm (ev_rs h x)) hok.1, RL_evs h xs hok.2⟩

theorem s_makeFunc {fn : Fn} {first caps : Array Operand} (ho : o.op = .makeFunc fn first caps) (hA : AO E all o f m K) (h : HRel m f (vals a) w L G ow) (hd : ∀ x, o.dst = some x → x < a.tmps.size) : o.wp P a w (Fin a w G K) Q := by
  have htk : tki E all o = none := by simp [tki, ho]
  unfold AO at hA
  rw [htk, ho] at hA
  simp only [Op.operands, opvs_none, isMk, clr] at hA
  cases fn with
  | func g =>
    simp only [aopC, frcL_eq] at hA
    split at hA
    case isFalse => exact hA.elim
    rename_i hh
    have hRL := RL_evs h _ hh.1
    have hdm := RL_dm _ _ hRL
    rw [show List.map a.eval (first ++ caps).toList = (first.map a.eval).toList ++ (caps.map a.eval).toList from by simp] at hdm
    refine wp_value (v := .func (.func g) (first.map a.eval) (caps.map a.eval)) (w' := w) (by simp [execOp, ho, Instr.makeFunc]) (fin_plain h hd (.refl _) ?_ (by trivial) hA)
    refine RS_of_R ?_
    simp only [R]
    refine ⟨(first.map a.eval).toList, (caps.map a.eval).toList, by simp only [Array.toArray_toList], ?_, ?_⟩
    · have := RL_take first.size _ _ hdm
      rwa [List.take_left' (by simp)] at this
    · have := RL_drop first.size _ _ hdm
      rwa [List.drop_left' (by simp)] at this
  | _ => exact hA.elim

/-! ### Addresses and parts -/
theorem struct_field (hE : EOk P E) {t i fo ft : Nat} {fs : List (Nat × Nat)} (ht : (E.T t).ty = .struct fs) (hf : fs[i]? = some (fo, ft)) :
    ∃ (Fs : Array Field) (F : Field), P.underlying t = some (.struct Fs) ∧ Fs[i]? = some F ∧ F.offset = fo ∧ F.type = ft := by
  obtain ⟨Fs, hF, rfl⟩ := ty_struct hE ht
  rw [List.getElem?_map] at hf
  cases hq : Fs.toList[i]? with
  | none => rw [hq] at hf; cases hf
  | some F =>
    rw [hq] at hf
    simp only [Option.map_some, Option.some.injEq, Prod.mk.injEq] at hf
    exact ⟨Fs, F, hF, by simpa using hq, hf.1, hf.2⟩

theorem exec_fieldAddr {t i : Nat} {x : Operand} (ho : o.op = .fieldAddr t x i) {Fs : Array Field} {F : Field} {inf : TypeInfo} {b off : Nat} (hF : P.underlying t = some (.struct Fs)) (hi : Fs[i]? = some F)
    (hinf : P.info? F.type = some inf) (hs : inf.size ≠ 0) (he : a.eval x = .pointer (some ⟨b, off, none⟩)) :
    (execOp a.eval o).run P w = .ok (.value (.pointer (some ⟨b, off + F.offset, none⟩))) w := by
  simp [execOp, ho, Instr.fieldAt, run_underlying hF, hi, he, Instr.sureAddr, fieldPlace, run_sizeOf hinf, hs, Addr.add_lit]

theorem s_fieldAddr (hE : EOk P E) {t i : Nat} {x : Operand} (ho : o.op = .fieldAddr t x i) (hA : AO E all o f m K) (h : HRel m f (vals a) w L G ow) (hd : ∀ x, o.dst = some x → x < a.tmps.size) : o.wp P a w (Fin a w G K) Q := by
  have htk : tki E all o = none := by simp [tki, ho]
  unfold AO at hA
  rw [htk, ho] at hA
  simp only [Op.operands, opvs_none, List.map_cons, List.map_nil, isMk, clr] at hA
  have hrs := ev_rs h x
  simp only [aopC] at hA
  split at hA
  case h_2 => exact hA.elim
  rename_i fs hty
  split at hA
  case h_2 => exact hA.elim
  rename_i fo ft hf
  split at hA
  · exact hA.elim
  rename_i hsz
  obtain ⟨Fs, F, hF, hFi, rfl, rfl⟩ := struct_field hE hty hf
  obtain ⟨inf, dd, hinf, _, hss, _, _⟩ := ty_info hE hsz
  have hs0 : inf.size ≠ 0 := by omega
  generalize hc : dm (evo f x) = xc at hA
  split at hA
  · rename_i l off e1
    injection e1 with e1 _; subst e1
    rw [dm_pp hc] at hrs
    cases l with
    | loc p =>
      have he := hrs.2
      exact wp_value (exec_fieldAddr ho hF hFi hinf hs0 he) (fin_plain (x := .pp (.loc p) (off + F.offset)) h hd (.refl _) ⟨hrs.1, rfl⟩ trivial hA)
    | obj id =>
      simp only [RS, R] at hrs
      obtain ⟨b, he, hH⟩ := hrs
      exact wp_value (exec_fieldAddr ho hF hFi hinf hs0 he) (fin_plain (x := .pp (.obj id) (off + F.offset)) h hd (.refl _) (by simp only [RS, R]; exact ⟨b, rfl, hH⟩) trivial hA)
  · rename_i c off e1
    injection e1 with e1 _; subst e1
    rw [dm_cp hc] at hrs
    simp only [RS, R] at hrs
    obtain ⟨ad, he, hsp, hle, hrz⟩ := hrs
    have had : ad = ⟨ad.block, ad.off, none⟩ := by cases ad; simp at hsp; simp [hsp]
    rw [had] at he
    exact wp_value (exec_fieldAddr ho hF hFi hinf hs0 he) (fin_plain (x := .cp c (off + F.offset)) h hd (.refl _) (by
      simp only [RS, R]
      exact ⟨_, rfl, rfl, by show off + F.offset ≤ ad.off + F.offset; omega, by
        show RZ _ ad.block (ad.off + F.offset - (off + F.offset)) c
        rwa [show ad.off + F.offset - (off + F.offset) = ad.off - off from by omega]⟩) trivial hA)
  · exact hA.elim

theorem s_field (hE : EOk P E) {t i : Nat} {x : Operand} (ho : o.op = .field t x i) (hA : AO E all o f m K) (h : HRel m f (vals a) w L G ow) (hd : ∀ x, o.dst = some x → x < a.tmps.size) : o.wp P a w (Fin a w G K) Q := by
  have htk : tki E all o = none := by simp [tki, ho]
  unfold AO at hA
  rw [htk, ho] at hA
  simp only [Op.operands, opvs_none, List.map_cons, List.map_nil, isMk, clr, aopC] at hA
  have hrs := ev_rs h x
  generalize hc : dm (evo f x) = xc at hA
  split at hA
  case h_2 => exact hA.elim
  rename_i fs cs hty e1
  injection e1 with e1 _; subst e1
  rw [dm_agg hc] at hrs
  simp only [RS, R] at hrs
  obtain ⟨vs, he, hr⟩ := hrs
  split at hA
  case h_2 => exact hA.elim
  rename_i fo ft hf
  obtain ⟨Fs, F, hF, hFi, rfl, rfl⟩ := struct_field hE hty hf
  obtain ⟨z, hk, hsz, hcase⟩ := ldc_inv hA
  obtain ⟨inf, dd, hinf, hdd, hss, _, hag⟩ := ty_info hE hsz
  have hlen := RL_length _ _ hr
  have hex : ∀ v, (part F.type vs.toArray F.offset).run P w = .ok v w → (execOp a.eval o).run P w = .ok (.value v) w := by
    intro v hv
    simp [execOp, ho, Instr.field, run_underlying hF, hFi, he, asAgg, hv]
  rcases hcase with ⟨ha, hle, rfl⟩ | ⟨ha, hz⟩
  · refine wp_value (hex _ (run_part_agg hinf hdd (by rw [← hag]; exact ha) vs.toArray F.offset w)) (fin_plain h hd (.refl _) ?_ (notFl_dm _) hk)
    refine RS_of_R (R_dm ?_)
    simp only [R]
    refine ⟨(vs.toArray.extract F.offset (F.offset + inf.size)).toList, by simp only [Array.toArray_toList], ?_⟩
    have := RL_dm _ _ (RL_take (E.T F.type).size _ _ (RL_drop F.offset _ _ hr))
    rw [Array.toList_extract, List.extract_eq_take_drop, Nat.add_sub_cancel_left, ← hss]
    simpa using this
  · obtain ⟨u, hu, hRu⟩ := RL_get _ _ hr F.offset z hz
    exact wp_value (hex _ (run_part_one hdd (by rw [← hag]; exact ha) vs.toArray F.offset u (by simpa using hu) w)) (fin_plain h hd (.refl _) (RS_of_R (R_dm hRu)) (notFl_dm _) hk)

theorem s_indexAddr (hE : EOk P E) {t : Nat} {x y : Operand} (ho : o.op = .indexAddr t x y) (hA : AO E all o f m K) (h : HRel m f (vals a) w L G ow) (hd : ∀ x, o.dst = some x → x < a.tmps.size) : o.wp P a w (Fin a w G K) Q := by
  have htk : tki E all o = none := by simp [tki, ho]
  unfold AO at hA
  rw [htk, ho] at hA
  simp only [Op.operands, opvs_none, List.map_cons, List.map_nil, isMk, clr, aopC] at hA
  have hrs := ev_rs h x
  have hry := ev_rs h y
  generalize hc : dm (evo f x) = xc at hA
  generalize hcy : dm (evo f y) = yc at hA
  split at hA
  case h_3 => exact hA.elim
  case h_2 =>
    rename_i e id cap off len k i hty e1
    injection e1 with e1 e2; subst e1; injection e2 with e2 _; subst e2
    split at hA
    · exact hA.elim
    rename_i hes
    obtain ⟨⟨h0, hlt⟩, hK⟩ := hA
    have hx2 := RS_dm hrs
    rw [hc] at hx2
    simp only [RS, R] at hx2
    obtain ⟨b, he, hlc, hcm, hH⟩ := hx2
    rw [dm_sc hcy] at hry
    have hey := RS_sc hry
    have ht := ty_slice hE hty
    obtain ⟨inf, dd, hinf, _, hss, _, _⟩ := ty_info hE hes
    refine wp_value (v := .pointer (some ⟨b, off + i.toNat * (E.T e).size, none⟩)) (w' := w) ?_ (fin_plain h hd (.refl _) ?_ (by trivial) hK)
    · simp [execOp, ho, Instr.indexAt, he, hey, asIntOf, run_underlying ht, h0, hlt, run_sizeOf hinf, Addr.add_lit]
      rw [hss]
    · simp only [RS, R]
      exact ⟨b, rfl, hH⟩
  rename_i e bb es len cs k i hty e1
  injection e1 with e1 e2; subst e1; injection e2 with e2 _; subst e2
  split at hA
  · exact hA.elim
  rename_i hes
  have hes0 : es ≠ 0 := fun e => hes (.inr e)
  have hes : es = (E.T e).size := Classical.byContradiction fun e => hes (.inl e)
  obtain ⟨⟨h0, hlt⟩, c, rfl, hK⟩ := hA
  have hx2 := RS_dm hrs
  rw [hc] at hx2
  simp only [RS, R] at hx2
  obtain ⟨ad, cap, he, hsp, hlc, hcm, hcl, hrz⟩ := hx2.resolve_right (fun x => by have := x.1; omega)
  rw [dm_sc hcy] at hry
  have hey := RS_sc hry
  have ht := ty_slice hE hty
  obtain ⟨inf, dd, hinf, _, hss, _, _⟩ := ty_info hE (by omega : (E.T e).size ≠ 0)
  have had : ad = ⟨ad.block, ad.off, none⟩ := by cases ad; simp at hsp; simp [hsp]
  refine wp_value (v := .pointer (some ⟨ad.block, ad.off + i.toNat * es, none⟩)) (w' := w) ?_ (fin_plain h hd (.refl _) ?_ (by trivial) hK)
  · rw [had] at he
    simp [execOp, ho, Instr.indexAt, he, hey, asIntOf, run_underlying ht, h0, hlt, run_sizeOf hinf, Addr.add_lit]
    rw [hes, hss]
  · simp only [RS, R]
    refine ⟨_, rfl, rfl, Nat.zero_le _, ?_⟩
    exact RZ_take _ _ _ _ (RZ_drop _ _ _ _ hrz)

theorem s_index (hE : EOk P E) {t : Nat} {x y : Operand} (ho : o.op = .index t x y) (hA : AO E all o f m K) (h : HRel m f (vals a) w L G ow) (hd : ∀ x, o.dst = some x → x < a.tmps.size) : o.wp P a w (Fin a w G K) Q := by
  have htk : tki E all o = none := by simp [tki, ho]
  unfold AO at hA
  rw [htk, ho] at hA
  simp only [Op.operands, opvs_none, List.map_cons, List.map_nil, isMk, clr, aopC] at hA
  have hrs := ev_rs h x
  have hry := ev_rs h y
  generalize hc : dm (evo f x) = xc at hA
  generalize hcy : dm (evo f y) = yc at hA
  split at hA
  case h_2 => exact hA.elim
  rename_i s k i hty e1
  injection e1 with e1 e2; subst e1; injection e2 with e2 _; subst e2
  obtain ⟨⟨h0, hlt⟩, b, hb, hK⟩ := hA
  rw [dm_sc hc] at hrs
  rw [dm_sc hcy] at hry
  have he := RS_sc hrs
  have hey := RS_sc hry
  refine wp_value (v := .int .u8 b.toNat) (w' := w) ?_ (fin_plain (x := .sc (.int .u8 b.toNat)) h hd (.refl _) (by simp [RS, R]) trivial hK)
  simp [execOp, ho, Instr.index, he, hey, asIntOf, run_underlying (ty_str hE hty), h0, hb]
end
end Go.Proofs.YtjchgncgkhofhaaGreat.AL
/- The A-logic: the operations, one by one (parts of strings and slices, lengths, conversions). -/
set_option linter.unusedVariables false
set_option linter.unusedSimpArgs false
namespace Go.Proofs.YtjchgncgkhofhaaGreat.AL
open Go
section
variable {P : Program} {E : Env} {all : List Oper} {o : Oper} {m : Mem} {f : Nat → AV} {a : Act} {w : World} {L : Nat → Nat} {G : Gh} {ow : Nat → Option Pos} {K : ASt → Prop} {Q : Exit → Act → World → Prop}

theorem run_bound {k : IntKind} {i : Int} {y : Nat} {code : BoundsCode} (h0 : 0 ≤ i) (h1 : i ≤ y) : (Instr.sliceBound (.int k i) y code).run P w = .ok i.toNat w := by
  simp [Instr.sliceBound, asIntOf, h0, h1]
theorem run_bounds (isSlice : Bool) (len cap : Nat) (lv hv : Option Value) (l h : Int) (hl : (lv = none ∧ l = 0) ∨ ∃ k, lv = some (.int k l)) (hh : (hv = none ∧ h = len) ∨ ∃ k, hv = some (.int k h))
    (h0 : 0 ≤ l) (h1 : l ≤ h) (h2 : h ≤ cap) : (Instr.sliceBounds isSlice len cap lv hv none).run P w = .ok (l.toNat, h.toNat, cap) w := by
  have hb : ∀ code, (Instr.sliceBound (.int .i64 l) h.toNat code).run P w = .ok l.toNat w := fun code => run_bound h0 (by omega)
  rcases hl with ⟨rfl, rfl⟩ | ⟨k, rfl⟩ <;> rcases hh with ⟨rfl, rfl⟩ | ⟨k', rfl⟩ <;> cases isSlice <;>
  simp only [Instr.sliceBounds, Option.isSome_none, Bool.false_eq_true, if_false, if_true, Sem.run_bind, Sem.run_pure, Result.andThen_ok] <;>
  (try rw [run_bound (by omega) (by omega)]) <;> (try simp only [Result.andThen_ok, Sem.run_pure]) <;> (try rw [run_bound (by omega) (by omega)]) <;> (try simp)

theorem exec_slice_str {t : Nat} {x : Operand} {lo hi : Option Operand} (ho : o.op = .slice t x lo hi none) {s : ByteArray} (ht : P.underlying t = some .string) (he : a.eval x = .string s) {l h : Int}
    (hl : (lo.map a.eval = none ∧ l = 0) ∨ ∃ k, lo.map a.eval = some (.int k l)) (hh : (hi.map a.eval = none ∧ h = s.size) ∨ ∃ k, hi.map a.eval = some (.int k h)) (h0 : 0 ≤ l) (h1 : l ≤ h) (h2 : h ≤ s.size) :
    (execOp a.eval o).run P w = .ok (.value (.string (s.extract l.toNat h.toNat))) w := by
  have hb := run_bounds (P := P) (w := w) false s.size s.size _ _ l h hl hh h0 h1 h2
  simp [execOp, ho, Instr.sliceAt, run_underlying ht, Instr.slice, he, hb]
theorem exec_slice_row {t e : Nat} {x : Operand} {lo hi : Option Operand} (ho : o.op = .slice t x lo hi none) {ad : Addr} {len cap : Nat} (ht : P.underlying t = some (.slice e)) (he : a.eval x = .slice (some ad) len cap) {l h : Int}
    (hl : (lo.map a.eval = none ∧ l = 0) ∨ ∃ k, lo.map a.eval = some (.int k l)) (hh : (hi.map a.eval = none ∧ h = len) ∨ ∃ k, hi.map a.eval = some (.int k h)) (h0 : 0 ≤ l) (h1 : l ≤ h) (h2 : h ≤ cap)
    {inf : TypeInfo} (hi : P.info? e = some inf) :
    (execOp a.eval o).run P w = .ok (.value (.slice (some (if cap = l.toNat then ad else ad.add (l.toNat * inf.size))) (h.toNat - l.toNat) (cap - l.toNat))) w := by
  have hb := run_bounds (P := P) (w := w) true len cap _ _ l h hl hh h0 h1 h2
  simp [execOp, ho, Instr.sliceAt, run_underlying ht, Instr.slice, he, hb, run_sizeOf hi]
  split <;> simp [*]

/-- The bounds that are told. -/
def sb (lo hi : Option Operand) (len : Int) (r : List AV) : Option (Int × Int) :=
  match lo, hi, r with
  | none, none, [] => some ((0 : Int), len)
  | some _, none, [.sc (.int _ l)] => some (l, len)
  | none, some _, [.sc (.int _ h)] => some (0, h)
  | some _, some _, [.sc (.int _ l), .sc (.int _ h)] => some (l, h)
  | _, _, _ => none
theorem sb_of (hr : HRel m f (vals a) w L G ow) {lo hi : Option Operand} {len l h : Int} (hs : sb lo hi len ((lo.toList ++ hi.toList).map fun x => dm (evo f x)) = some (l, h)) :
    ((lo.map a.eval = none ∧ l = 0) ∨ ∃ k, lo.map a.eval = some (.int k l)) ∧ ((hi.map a.eval = none ∧ h = len) ∨ ∃ k, hi.map a.eval = some (.int k h)) := by
  have one : ∀ (x : Operand) (k : IntKind) (i : Int), dm (evo f x) = .sc (.int k i) → a.eval x = .int k i := by
    intro x k i hx
    have := ev_rs hr x
    rw [dm_sc hx] at this
    exact RS_sc this
  cases lo with
  | none => cases hi with
    | none =>
      simp only [sb, Option.toList, List.append_nil, List.map_nil, Option.some.injEq, Prod.mk.injEq] at hs
      exact ⟨.inl ⟨rfl, hs.1.symm⟩, .inl ⟨rfl, hs.2.symm⟩⟩
    | some y =>
      simp only [sb, Option.toList, List.nil_append, List.map_cons, List.map_nil] at hs
      generalize hq : dm (evo f y) = q at hs
      cases q with
      | sc v => cases v with
        | int k i =>
          simp only [Option.some.injEq, Prod.mk.injEq] at hs
          obtain ⟨rfl, rfl⟩ := hs
          exact ⟨.inl ⟨rfl, rfl⟩, .inr ⟨k, by simp [one _ _ _ hq]⟩⟩
        | _ => cases hs
      | _ => cases hs
  | some x => cases hi with
    | none =>
      simp only [sb, Option.toList, List.append_nil, List.map_cons, List.map_nil] at hs
      generalize hq : dm (evo f x) = q at hs
      cases q with
      | sc v => cases v with
        | int k i =>
          simp only [Option.some.injEq, Prod.mk.injEq] at hs
          obtain ⟨rfl, rfl⟩ := hs
          exact ⟨.inr ⟨k, by simp [one _ _ _ hq]⟩, .inl ⟨rfl, rfl⟩⟩
        | _ => cases hs
      | _ => cases hs
    | some y =>
      simp only [sb, Option.toList, List.singleton_append, List.map_cons, List.map_nil] at hs
      generalize hq : dm (evo f x) = q at hs
      generalize hp : dm (evo f y) = p at hs
      cases q with
      | sc v => cases v with
        | int k i => cases p with
          | sc v => cases v with
            | int k' i' =>
              simp only [Option.some.injEq, Prod.mk.injEq] at hs
              obtain ⟨rfl, rfl⟩ := hs
              exact ⟨.inr ⟨k, by simp [one _ _ _ hq]⟩, .inr ⟨k', by simp [one _ _ _ hp]⟩⟩
            | _ => cases hs
          | _ => cases hs
        | _ => cases hs
      | _ => cases hs

theorem s_slice (hE : EOk P E) {t : Nat} {x : Operand} {lo hi mx : Option Operand} (ho : o.op = .slice t x lo hi mx) (hA : AO E all o f m K) (h : HRel m f (vals a) w L G ow) (hd : ∀ x, o.dst = some x → x < a.tmps.size) : o.wp P a w (Fin a w G K) Q := by
  have htk : tki E all o = none := by simp [tki, ho]
  unfold AO at hA
  rw [htk, ho] at hA
  have hops : (Op.slice t x lo hi mx).operands.toList = x :: (lo.toList ++ hi.toList ++ mx.toList) := by
    cases lo <;> cases hi <;> cases mx <;> rfl
  rw [hops, opvs_none] at hA
  simp only [List.map_cons, isMk, clr] at hA
  have hrs := ev_rs h x
  generalize hc : dm (evo f x) = xc at hA
  cases mx with
  | some _ => simp only [aopC] at hA
  | none =>
    simp only [Option.toList_none, List.append_nil] at hA
    cases hty : (E.T t).ty with
    | str =>
      have ht := ty_str hE hty
      cases xc with
      | sc v => cases v with
        | string s =>
          rw [dm_sc hc] at hrs
          have he := RS_sc hrs
          simp only [aopC, hty] at hA
          change (match sb lo hi s.size ((lo.toList ++ hi.toList).map fun x => dm (evo f x)) with
            | some (l, h) => (0 ≤ l ∧ l ≤ h ∧ h ≤ s.size) ∧ K ⟨finF false m.bx o.dst (.sc (.string (s.extract l.toNat h.toNat))) f, m⟩
            | none => False) at hA
          split at hA
          case h_2 => exact hA.elim
          rename_i l hh hsb
          obtain ⟨⟨b0, b1, b2⟩, hK⟩ := hA
          obtain ⟨k1, k2⟩ := sb_of h hsb
          exact wp_value (exec_slice_str ho ht he k1 k2 b0 b1 b2) (fin_plain (x := .sc (.string (s.extract l.toNat hh.toNat))) h hd (.refl _) (by simp [RS, R]) trivial hK)
        | _ => simp only [aopC, hty] at hA
      | _ => simp only [aopC, hty] at hA
    | slice e =>
      have ht := ty_slice hE hty
      cases xc with
      | vec bb es len cs =>
        simp only [aopC, hty] at hA
        change (match sb lo hi len ((lo.toList ++ hi.toList).map fun x => dm (evo f x)) with
            | some (l, h) => if es ≠ (E.T e).size ∨ es = 0 then False else (0 ≤ l ∧ l ≤ h ∧ h ≤ len) ∧ K ⟨finF false m.bx o.dst (.vec false es (h.toNat - l.toNat) ((cs.drop (l.toNat * es)).take ((h.toNat - l.toNat) * es))) f, m⟩
            | none => False) at hA
        split at hA
        case h_2 => exact hA.elim
        rename_i l hh hsb
        split at hA
        · exact hA.elim
        rename_i hes
        have hes0 : es ≠ 0 := fun e => hes (.inr e)
        have hes : es = (E.T e).size := Classical.byContradiction fun e => hes (.inl e)
        obtain ⟨⟨b0, b1, b2⟩, hK⟩ := hA
        obtain ⟨k1, k2⟩ := sb_of h hsb
        obtain ⟨inf, dd, hinf, _, hss, _, _⟩ := ty_info hE (by omega : (E.T e).size ≠ 0)
        have hx2 := RS_dm hrs
        rw [hc] at hx2
        simp only [RS, R] at hx2
        rcases hx2 with ⟨ad, cap, he, hsp, hlc, hcm, hcl, hrz⟩ | ⟨rfl, rfl, A, he, _⟩
        rotate_left
        · have h00 : l = 0 ∧ hh = 0 := by omega
          obtain ⟨rfl, rfl⟩ := h00
          have hb := run_bounds (P := P) (w := w) true 0 0 _ _ 0 0 k1 k2 (by omega) (by omega) (by omega)
          refine wp_value (v := .slice A 0 0) (w' := w) (by cases A <;> simp [execOp, ho, Instr.sliceAt, run_underlying ht, Instr.slice, he, hb, run_sizeOf hinf, Addr.add]) (fin_plain h hd (.refl _) ?_ (by trivial) hK)
          refine RS_of_R ?_
          simp only [R]
          exact .inr ⟨by simp, by simp, A, rfl, fun e => by cases e⟩
        have had : ad = ⟨ad.block, ad.off, none⟩ := by cases ad; simp at hsp; simp [hsp]
        refine wp_value (exec_slice_row ho ht he k1 k2 b0 b1 (by omega) hinf) (fin_plain h hd (.refl _) ?_ (by trivial) hK)
        refine RS_of_R ?_
        simp only [R]
        refine .inl ?_
        have hl2 : ((cs.drop (l.toNat * es)).take ((hh.toNat - l.toNat) * es)).length = (hh.toNat - l.toNat) * es := by
          rw [List.length_take, List.length_drop, hcl]
          have h1 : (hh.toNat - l.toNat) * es = hh.toNat * es - l.toNat * es := Nat.sub_mul _ _ _
          have h2 : hh.toNat * es ≤ len * es := Nat.mul_le_mul_right _ (by omega)
          omega
        by_cases hcap : cap = l.toNat
        · rw [if_pos hcap]
          have hz : hh.toNat - l.toNat = 0 := by omega
          refine ⟨ad, _, rfl, hsp, by omega, by omega, hl2, ?_⟩
          rw [hz, Nat.zero_mul, List.take_zero]; simp [RZ]
        · rw [if_neg hcap]
          refine ⟨_, _, rfl, by rw [had, Addr.add_lit], by omega, by omega, hl2, ?_⟩
          rw [had, Addr.add_lit]
          rw [← hss, ← hes]
          exact RZ_take _ _ _ _ (RZ_drop _ _ _ _ hrz)
      | ap lc cap off len =>
        cases lc with
        | loc p => simp only [aopC, hty] at hA
        | obj id =>
          simp only [aopC, hty] at hA
          change (match sb lo hi len ((lo.toList ++ hi.toList).map fun x => dm (evo f x)) with
              | some (l, h) => if (E.T e).size = 0 then False else (0 ≤ l ∧ l ≤ h ∧ h ≤ cap) ∧ K ⟨finF false m.bx o.dst (.ap (.obj id) (cap - l.toNat) (if cap = l.toNat then off else off + l.toNat * (E.T e).size) (h.toNat - l.toNat)) f, m⟩
              | none => False) at hA
          split at hA
          case h_2 => exact hA.elim
          rename_i l hh hsb
          split at hA
          · exact hA.elim
          rename_i hes
          obtain ⟨⟨b0, b1, b2⟩, hK⟩ := hA
          obtain ⟨k1, k2⟩ := sb_of h hsb
          obtain ⟨inf, dd, hinf, _, hss, _, _⟩ := ty_info hE hes
          have hx2 := RS_dm hrs
          rw [hc] at hx2
          simp only [RS, R] at hx2
          obtain ⟨b, he, hlc, hcm, hH⟩ := hx2
          refine wp_value (exec_slice_row ho ht he k1 k2 b0 b1 (by omega) hinf) (fin_plain h hd (.refl _) ?_ (by trivial) hK)
          refine RS_of_R ?_
          simp only [R]
          refine ⟨b, ?_, by omega, by omega, hH⟩
          by_cases hcap : cap = l.toNat
          · rw [if_pos hcap, if_pos hcap]
          · rw [if_neg hcap, if_neg hcap, Addr.add_lit, hss]
      | _ => simp only [aopC, hty] at hA
    | _ => simp only [aopC, hty] at hA

/-! ### Lengths -/
theorem run_getObj1 {b : Nat} {es : Array MapEntry} {clock : Nat} (hb : w.heap[b]? = some (.map es clock)) : (getObj b).run P w = .ok (.map es clock) w := by
  simp [getObj, Sem.run, hb]
theorem exec_len {c : Call} {x : Operand} (ho : o.op = .call c) (hc : c.callee = .builtin .len) (ha : c.args = #[x]) {n : Int}
    (hr : (Builtin.len_ c.argTypes o.type #[a.eval x]).run P w = .ok (.int .i64 n) w) : (execOp a.eval o).run P w = .ok (.value (.int .i64 n)) w := by
  simp [execOp, ho, resolve, hc, ha, invoke, builtin, hr]

theorem RM_length {c : Wz} : ∀ (es : List (AV × AV)) (l : List MapEntry), RM c es l → l.length = es.length
  | [], l, h => by simp only [RM] at h; subst h; rfl
  | p :: es, _, h => by obtain ⟨e, r, rfl, _, _, h3⟩ := h; simp [RM_length es r h3]

theorem map_of {l : Loc} {es : List (AV × AV)} {v : Value} (h : HRel m f (vals a) w L G ow) (hl : look m l = .map es) (hrs : RS (G.wz w) m.bx L (.mp l) v) :
    ∃ b ents clock, v = .map (some b) ∧ Blk L G.H l (look m l) b ∧ w.heap[b]? = some (.map ents clock) ∧ RM (G.wz w) es ents.toList := by
  obtain ⟨b, h1, h2, h3, h4, h5⟩ := h.ob l (by rw [hl]; trivial)
  have h1' := h1
  rw [hl] at h2 h1'
  obtain ⟨ents, clock, k1, k2⟩ := h2
  refine ⟨b, ents, clock, ?_, h1, k1, k2⟩
  cases l with
  | loc d => simp only [Blk] at h1'; subst h1'; exact hrs.2
  | obj id =>
    simp only [RS, R] at hrs
    obtain ⟨b', e1, e2⟩ := hrs
    rw [e1, h.hf _ _ _ _ e2 h1']

theorem s_len (hE : EOk P E) {c : Call} (ho : o.op = .call c) (hc : c.callee = .builtin .len) (hA : AO E all o f m K) (h : HRel m f (vals a) w L G ow) (hd : ∀ x, o.dst = some x → x < a.tmps.size) : o.wp P a w (Fin a w G K) Q := by
  obtain ⟨callee, args, argTypes⟩ := c
  simp only at hc; subst hc
  have htk : tki E all o = none := by simp [tki, ho]
  unfold AO at hA
  rw [htk, ho] at hA
  simp only [Op.operands, Call.operands, Array.empty_append, opvs_none, isMk, clr, aopC] at hA
  split at hA
  case h_2 => exact hA.elim
  rename_i t ht
  have one : ∀ {x : Operand} {y : AV}, args.toList.map (fun x => dm (evo f x)) = [y] → ∃ x, args = #[x] ∧ dm (evo f x) = y := by
    intro _ y hy
    match hl : args.toList, hy with
    | [x], hy =>
      simp at hy
      refine ⟨x, ?_, hy⟩
      have : args = args.toList.toArray := by simp
      rw [this, hl]
  generalize hxs : args.toList.map (fun x => dm (evo f x)) = xs at hA
  split at hA
  · rename_i e b es n cs hty
    obtain ⟨x, rfl, hx⟩ := one (x := .tmp 0) hxs
    have hrs := RS_dm (ev_rs h x)
    rw [hx] at hrs
    simp only [RS, R] at hrs
    have he : ∃ A k, a.eval x = .slice A n k := by
      rcases hrs with ⟨ad, k, he, _⟩ | ⟨rfl, _, A, he, _⟩
      · exact ⟨_, _, he⟩
      · exact ⟨_, _, he⟩
    obtain ⟨A, k, he⟩ := he
    exact wp_value (exec_len ho rfl rfl (n := n) (by simp [Builtin.len_, ht, run_underlying (ty_slice hE hty), he, goInt])) (fin_plain (x := .sc (.int .i64 n)) h hd (.refl _) (by simp [RS, R]) trivial hA)
  · rename_i e l ver off n hty
    obtain ⟨x, rfl, hx⟩ := one (x := .tmp 0) hxs
    have hrs := RS_dm (ev_rs h x)
    rw [hx] at hrs
    cases l with
    | loc d => exact hrs.elim
    | obj id =>
      simp only [RS, R] at hrs
      obtain ⟨ad, he, _⟩ := hrs
      exact wp_value (exec_len ho rfl rfl (n := n) (by simp [Builtin.len_, ht, run_underlying (ty_slice hE hty), he, goInt])) (fin_plain (x := .sc (.int .i64 n)) h hd (.refl _) (by simp [RS, R]) trivial hA)
  · rename_i e k hty
    obtain ⟨x, rfl, hx⟩ := one (x := .tmp 0) hxs
    have hrs := RS_dm (ev_rs h x)
    rw [hx] at hrs
    have he := RS_sc hrs
    exact wp_value (exec_len ho rfl rfl (n := 0) (by simp [Builtin.len_, ht, run_underlying (ty_slice hE hty), he, goInt])) (fin_plain (x := .sc (.int .i64 0)) h hd (.refl _) (by simp [RS, R]) trivial hA)
  · rename_i s hty
    obtain ⟨x, rfl, hx⟩ := one (x := .tmp 0) hxs
    have hrs := RS_dm (ev_rs h x)
    rw [hx] at hrs
    have he := RS_sc hrs
    exact wp_value (exec_len ho rfl rfl (n := s.size) (by simp [Builtin.len_, ht, run_underlying (ty_str hE hty), he, goInt])) (fin_plain (x := .sc (.int .i64 s.size)) h hd (.refl _) (by simp [RS, R]) trivial hA)
  · rename_i kt et d hty
    split at hA
    case h_2 => exact hA.elim
    rename_i es hes
    obtain ⟨x, rfl, hx⟩ := one (x := .tmp 0) hxs
    have hrs := RS_dm (ev_rs h x)
    rw [hx] at hrs
    obtain ⟨b, ents, clock, he, hb, hw, hm⟩ := map_of h (l := .loc d) (es := es) hes hrs
    have hlen := RM_length _ _ hm
    exact wp_value (exec_len ho rfl rfl (n := es.length) (by simp [Builtin.len_, ht, run_underlying (ty_map hE hty), he, goInt, run_getObj1 hw, ← hlen])) (fin_plain (x := .sc (.int .i64 es.length)) h hd (.refl _) (by simp [RS, R]) trivial hA)
  · rename_i kt et id hty
    obtain ⟨es, hes, hA⟩ := hA
    obtain ⟨x, rfl, hx⟩ := one (x := .tmp 0) hxs
    have hrs := RS_dm (ev_rs h x)
    rw [hx] at hrs
    obtain ⟨b, ents, clock, he, hb, hw, hm⟩ := map_of h (l := .obj id) (es := es) (look_obj hes) hrs
    have hlen := RM_length _ _ hm
    exact wp_value (exec_len ho rfl rfl (n := es.length) (by simp [Builtin.len_, ht, run_underlying (ty_map hE hty), he, goInt, run_getObj1 hw, ← hlen])) (fin_plain (x := .sc (.int .i64 es.length)) h hd (.refl _) (by simp [RS, R]) trivial hA)
  · exact hA.elim
end
end Go.Proofs.YtjchgncgkhofhaaGreat.AL
/- The A-logic: the operations, one by one (conversions, literals). -/
set_option linter.unusedVariables false
set_option linter.unusedSimpArgs false
namespace Go.Proofs.YtjchgncgkhofhaaGreat.AL
open Go
section
variable {P : Program} {E : Env} {all : List Oper} {o : Oper} {m : Mem} {f : Nat → AV} {a : Act} {w : World} {L : Nat → Nat} {G : Gh} {ow : Nat → Option Pos} {K : ASt → Prop} {Q : Exit → Act → World → Prop}

/-- Cells of a new block, frozen at once. -/
theorem HRel.freshRO {S : Nat → AV} {V : Nat → Value} (h : HRel m S V w L G ow) {w' : World} (g : Grow w w') {B : Nat} (hB : B < w'.heap.size) (hB0 : w.heap.size ≤ B) {cs : List AV} {us : List Value} (hr : RL (G.wz w) cs us)
    (hc : ∀ (i : Nat) (v : Value), us[i]? = some v → w'.cell? ⟨B, i, none⟩ = some v) :
    ∃ G' ow', HRel m S V w' L G' ow' ∧ Ext w G w' G' ∧ RZ (G'.wz w') B 0 cs := by
  let G' : Gh := { G with Z := fun b o => G.Z b o ∨ (b = B ∧ o < us.length) }
  have hnoB : ∀ p, ow B = some p → False ∨ True := fun _ _ => .inr trivial
  have h0 : HRel m S V w' L G (upd ow B none) := ow_freshB h g hB0
  have h2 : HRel m S V w' L G' (upd ow B none) := by
    refine h0.freeze (G' := G') rfl rfl B hB (fun _ _ k => .inl k) (fun b o hb => ⟨fun k => k.resolve_right (fun k => hb k.1), .inl⟩) (fun l => by rw [upd_at]; simp) (fun u e' n' cs' a k hx hv ha o ho => ?_) (fun l j => by rw [upd_at]; simp)
    obtain ⟨k1, us, T', k2, _⟩ := h.so u e' n' cs' a k hx hv
    have hlt' := (Array.getElem?_eq_some_iff.1 k2).1
    omega
  have hle : Wz.le (G.wz w) (G'.wz w') := (g.le h.zb).trans ⟨fun b o k => ⟨.inl k, rfl⟩, fun _ _ _ k => k⟩
  refine ⟨G', _, h2, ⟨hle, rfl, fun b hb => g.old b (h.fb b hb).1, fun b o hb hz => hz.resolve_right (fun x => by have := (h.fb b hb).1; omega), g.size, g.os, g.output, g.tape⟩, ?_⟩
  exact RZ_of cs us B 0 (RL_mono hle _ _ hr) (fun i v hv => by rw [Nat.zero_add]; exact hc i v hv) (fun i hi => .inr ⟨rfl, by omega⟩)

theorem fin_freshRO (h : HRel m f (vals a) w L G ow) (hd : ∀ x, o.dst = some x → x < a.tmps.size) {w' : World} (g : Grow w w') {B : Nat} (hB : B < w'.heap.size) (hB0 : w.heap.size ≤ B) {es n cap : Nat} {cs : List AV} {us : List Value} (hr : RL (G.wz w) cs us)
    (hc : ∀ (i : Nat) (v : Value), us[i]? = some v → w'.cell? ⟨B, i, none⟩ = some v) (hl : cs.length = n * es) (hn : n ≤ cap) (hm : cap ≤ maxLen) {bx : Nat → AObj}
    (hK : K ⟨finF false bx o.dst (.vec false es n cs) f, m⟩) : Fin a w G K (a.put o.dst (.slice (some ⟨B, 0, none⟩) n cap)) w' := by
  obtain ⟨G', ow', h1, h2, h3⟩ := h.freshRO g hB hB0 hr hc
  refine ⟨_, L, G', ow', hK, h1.putd hd (RS_of_R ?_) (by trivial) bx, h2, defers_put _ _ _, size_put _ _ _⟩
  simp only [R]
  exact .inl ⟨_, _, rfl, rfl, hn, hm, hl, h3⟩

theorem s_convert (hE : EOk P E) {s t : Nat} {x : Operand} (ho : o.op = .convert s t x) (hA : AO E all o f m K) (h : HRel m f (vals a) w L G ow) (hd : ∀ x, o.dst = some x → x < a.tmps.size) : o.wp P a w (Fin a w G K) Q := by
  have htk : tki E all o = none := by simp [tki, ho]
  unfold AO at hA
  rw [htk, ho] at hA
  simp only [Op.operands, opvs_none, List.map_cons, List.map_nil, isMk, clr, aopC] at hA
  have hrs := ev_rs h x
  generalize hc : dm (evo f x) = xc at hA
  split at hA
  · rename_i k0 k k1 n hs ht e1
    injection e1 with e1 _; subst e1
    rw [dm_sc hc] at hrs
    have he := RS_sc hrs
    exact wp_value (v := .int k (k.wrap n)) (w' := w) (by simp [execOp, ho, he, convert, run_underlying (ty_int hE hs), run_underlying (ty_int hE ht), Conv.intToInt]) (fin_plain (x := .sc (.int k (k.wrap n))) h hd (.refl _) (by simp [RS, R]) trivial hA)
  · rename_i u hs ht e1
    injection e1 with e1 _; subst e1
    rw [dm_sc hc] at hrs
    have he := RS_sc hrs
    exact wp_value (v := .string u) (w' := w) (by simp [execOp, ho, he, convert, run_underlying (ty_str hE hs), run_underlying (ty_str hE ht)]) (fin_plain (x := .sc (.string u)) h hd (.refl _) (by simp [RS, R]) trivial hA)
  · rename_i e u hs ht e1
    injection e1 with e1 _; subst e1
    rw [dm_sc hc] at hrs
    have he := RS_sc hrs
    split at hA
    case h_2 => exact hA.elim
    rename_i hte
    split at hA
    case isFalse => exact hA.elim
    rename_i hsz
    obtain ⟨hle, hK⟩ := hA
    have hrun := run_bytes_of_string (P := P) w s t e u (ty_str hE hs) (ty_slice hE ht) (ty_int hE hte)
    have hge : u.size ≤ grownCap w u.size 0 e := grownCap_ge _ _ _ _
    have hlen : (u.toList.map fun b => AV.sc (.int .u8 b.toNat)).length = u.size * 1 := by
      rw [ByteArray.toList_eq]; simp
    refine wp_value (by simp only [execOp, ho, he, Sem.run_bind, hrun, Result.andThen_ok]; rfl) (fin_freshRO (es := 1) (us := u.toList.map fun b => Value.int .u8 b.toNat) (B := w.heap.size) h hd (((Grow.drew w).trans (Grow.alloc w.drew _))) ?_ (Nat.le_refl _) ?_ ?_ hlen hge (grownCap_le_maxLen _ _ _ _ hle) hK)
    · show w.heap.size < (w.heap.push _).size; simp
    · have := RL_sc (c := G.wz w) (u.toList.map fun b => Value.int .u8 b.toNat)
      rwa [List.map_map] at this
    · intro i v hv
      have hnew : (w.drew.alloc (.cells (bytesRow u (grownCap w u.size 0 e)) e ((bytesRow u (grownCap w u.size 0 e)).size, (bytesRow u (grownCap w u.size 0 e)).size + 1))).heap[w.heap.size]? = some (.cells (bytesRow u (grownCap w u.size 0 e)) e ((bytesRow u (grownCap w u.size 0 e)).size, (bytesRow u (grownCap w u.size 0 e)).size + 1)) := by
        show (w.heap.push _)[w.heap.size]? = _; simp
      unfold World.cell?
      simp only [hnew]
      rw [List.getElem?_map] at hv
      have hlt : i < u.toList.length := by
        rcases Nat.lt_or_ge i u.toList.length with k | k
        · exact k
        · rw [List.getElem?_eq_none k] at hv; cases hv
      rw [List.getElem?_eq_getElem hlt] at hv
      simp only [Option.map_some, Option.some.injEq] at hv
      subst hv
      have hlt2 : i < u.data.size := by rw [ByteArray.toList_eq] at hlt; simpa using hlt
      have hget : u.toList[i] = u.data[i] := by
        have : u.toList[i]? = u.data.toList[i]? := by rw [ByteArray.toList_eq]
        rw [List.getElem?_eq_getElem hlt, List.getElem?_eq_getElem (by simpa using hlt2)] at this
        simpa using this
      rw [hget]
      have hlt3 : i < u.size := hlt2
      simp [bytesRow, Array.getElem?_append, hlt2, hlt3]
  · rename_i e b es n cs hs ht e1
    injection e1 with e1 _; subst e1
    have hx2 := RS_dm hrs
    rw [hc] at hx2
    simp only [RS, R] at hx2
    rcases hx2 with ⟨ad, cap, he, hsp, hlc, hcm, hcl, hrz⟩ | ⟨rfl, rfl, A, he, _⟩
    rotate_left
    · split at hA
      case h_2 => exact hA.elim
      rename_i hte
      split at hA
      case isFalse => exact hA.elim
      obtain ⟨l, hl0, hK⟩ := hA
      have hl1 : l = [] := by cases l with
        | nil => rfl
        | cons x r => simp at hl0
      subst hl1
      have hrun := run_convert_bytes_string (P := P) w s t e A 0 0 (ty_slice hE hs) (ty_int hE hte) (ty_str hE ht)
      have hrun2 : (convert s t (.slice A 0 0)).run P w = .ok (.string ⟨#[]⟩) w := by rw [hrun]; cases A <;> rfl
      exact wp_value (v := .string ⟨#[]⟩) (w' := w) (by simp only [execOp, ho, he, Sem.run_bind, hrun2, Result.andThen_ok]; rfl) (fin_plain (x := .sc (.string ⟨#[]⟩)) h hd (.refl _) (by simp [RS, R]) trivial hK)
    split at hA
    case h_2 => exact hA.elim
    rename_i hte
    split at hA
    case isFalse => exact hA.elim
    rename_i hes
    obtain ⟨l, rfl, hK⟩ := hA
    subst hes
    have hn : n = l.length := by simpa using hcl.symm
    subst hn
    have had : ad = ⟨ad.block, ad.off, none⟩ := by cases ad; simp at hsp; simp [hsp]
    have hrun := run_convert_bytes_back (P := P) w s t e ad cap l (ty_slice hE hs) (ty_int hE hte) (ty_str hE ht) (fun j hj => by
      obtain ⟨v, h1, _, h3⟩ := RZ_get _ _ _ hrz j (.sc (.int .u8 l[j].toNat)) (by simp [hj])
      simp only [R] at h3; subst h3
      rw [had, Addr.add_lit]; exact h1)
    exact wp_value (v := .string ⟨l.toArray⟩) (w' := w) (by simp only [execOp, ho, he, Sem.run_bind, hrun, Result.andThen_ok]; rfl) (fin_plain (x := .sc (.string ⟨l.toArray⟩)) h hd (.refl _) (by simp [RS, R]) trivial hK)
  · exact hA.elim
end
end Go.Proofs.YtjchgncgkhofhaaGreat.AL
