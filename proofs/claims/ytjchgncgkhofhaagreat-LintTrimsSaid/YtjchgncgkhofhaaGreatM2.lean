/- The A-logic: the operations, one by one (moves, loads, stores, boxes, literals, tests). -/
import Derived.Test.YtjchgncgkhofhaaGreatM1
import Derived.Laws.StructEq
set_option linter.unusedVariables false
set_option linter.unusedSimpArgs false
namespace Go.Proofs.YtjchgncgkhofhaaGreat.AL
open Go

def AO (E : Env) (all : List Oper) (o : Oper) (f : Nat → AV) (m : Mem) (K : ASt → Prop) : Prop :=
  aopC E o.dst (tkl E all o) o.op (opvs f (tki E all o) 0 o.op.operands.toList) m fun v m' => K ⟨finF (isMk o.op) m.bx o.dst v (clr f (tki E all o) o.op.operands.toList), m'⟩
theorem aop_eq (E : Env) (all : List Oper) (o : Oper) (f : Nat → AV) (m : Mem) (K : ASt → Prop) : aop E all o ⟨f, m⟩ K = AO E all o f m K := by
  unfold aop AO; simp only [clrK_eq, fin_eq]

theorem dm_sc {x : AV} {v : Value} (h : dm x = .sc v) : x = .sc v := by cases x <;> simp [dm] at h; rw [h]
theorem dm_pp {x : AV} {l : Loc} {o : Nat} (h : dm x = .pp l o) : x = .pp l o := by cases x <;> simp [dm] at h; rw [h.1, h.2]
theorem dm_cp {x : AV} {c : List AV} {o : Nat} (h : dm x = .cp c o) : x = .cp c o := by cases x <;> simp [dm] at h; rw [h.1, h.2]
theorem dm_mp {x : AV} {l : Loc} (h : dm x = .mp l) : x = .mp l := by cases x <;> simp [dm] at h; rw [h]
theorem dm_agg {x : AV} {c : List AV} (h : dm x = .agg c) : x = .agg c := by cases x <;> simp [dm] at h; rw [h]
theorem dm_tup {x : AV} {c : List AV} (h : dm x = .tup c) : x = .tup c := by cases x <;> simp [dm] at h; rw [h]
theorem dm_fn {x : AV} {g : Fn} {b c : List AV} (h : dm x = .fn g b c) : x = .fn g b c := by cases x <;> simp [dm] at h; rw [h.1, h.2.1, h.2.2]
theorem dm_vec {x : AV} {b : Bool} {e n : Nat} {c : List AV} (h : dm x = .vec b e n c) : ∃ b', x = .vec b' e n c := by
  cases x <;> simp [dm] at h
  obtain ⟨_, rfl, rfl, rfl⟩ := h; exact ⟨_, rfl⟩

section
variable {P : Program} {E : Env} {all : List Oper} {o : Oper} {m : Mem} {f : Nat → AV} {a : Act} {w : World} {L : Nat → Nat} {G : Gh} {ow : Nat → Option Pos} {K : ASt → Prop} {Q : Exit → Act → World → Prop}

theorem RS_sc {c : Wz} {bx : Nat → AObj} {v v' : Value} (h : RS c bx L (.sc v) v') : v' = v := by simpa [RS, R] using h

theorem s_move {x : Operand} (ho : o.op = .move x ∨ o.op = .assign x) (hA : AO E all o f m K) (h : HRel m f (vals a) w L G ow) (hd : ∀ x, o.dst = some x → x < a.tmps.size) : o.wp P a w (Fin a w G K) Q := by
  unfold AO at hA
  generalize tki E all o = tk at hA
  rcases ho with ho | ho <;> rw [ho] at hA <;> simp only [Op.operands, opvs, aopC, isMk, frc_eq] at hA <;>
  exact wp_value (v := a.eval x) (w' := w) (by simp [execOp, ho]) (fin_move h hd hA)

theorem s_pick {c x y : Operand} (ho : o.op = .pick c x y) (hA : AO E all o f m K) (h : HRel m f (vals a) w L G ow) (hd : ∀ x, o.dst = some x → x < a.tmps.size) : o.wp P a w (Fin a w G K) Q := by
  have htk : tki E all o = none := by simp [tki, ho]
  unfold AO at hA
  rw [htk, ho] at hA
  simp only [Op.operands, opvs, isMk, clr, reduceCtorEq, if_false, Nat.reduceAdd] at hA
  generalize hc : dm (evo f c) = xc at hA
  cases xc with
  | sc v => cases v with
    | bool t =>
      have he : a.eval c = .bool t := RS_sc (by have := ev_rs h c; rwa [dm_sc hc] at this)
      cases t with
      | true =>
        simp only [aopC, frc_eq] at hA
        exact wp_value (v := a.eval x) (w' := w) (by simp [execOp, ho, he, asBool]) (fin_plain h hd (.refl _) (RS_dm (ev_rs h x)) (notFl_dm _) hA)
      | false =>
        simp only [aopC, frc_eq] at hA
        exact wp_value (v := a.eval y) (w' := w) (by simp [execOp, ho, he, asBool]) (fin_plain h hd (.refl _) (RS_dm (ev_rs h y)) (notFl_dm _) hA)
    | _ => exact hA.elim
  | _ => exact hA.elim

/-! ### Loads -/
theorem ldc_inv {t : Nat} {cs : List AV} {off : Nat} {KK : AV → Prop} (h : ldc E t cs off KK) :
    ∃ x, KK x ∧ (E.T t).size ≠ 0 ∧ ((isAgg E t = true ∧ off + (E.T t).size ≤ cs.length ∧ x = .agg (((cs.drop off).take (E.T t).size).map dm)) ∨ (isAgg E t = false ∧ cs[off]? = some x)) := by
  unfold ldc at h
  split at h
  · exact h.elim
  · rename_i hs
    split at h
    · rename_i ha
      split at h
      · rename_i hl
        rw [frcN_eq] at h
        exact ⟨_, h, hs, .inl ⟨ha, hl, rfl⟩⟩
      · exact h.elim
    · rename_i ha
      split at h
      · rename_i v r hv
        rw [frc_eq] at h
        refine ⟨v, h, hs, .inr ⟨by simpa using ha, ?_⟩⟩
        have : (cs.drop off)[0]? = some v := by rw [hv]; rfl
        simpa using this
      · exact h.elim

/-- What is read out of cells that stand for such ones. -/
theorem load_run (hE : EOk P E) {t : Nat} {cs : List AV} {vs : List Value} {off b o0 : Nat} {KK : AV → Prop} {c : Wz} {w : World} (hl : ldc E t cs off KK) (hr : RL c cs vs)
    (hc : ∀ (i : Nat) (v : Value), vs[i]? = some v → w.cell? ⟨b, o0 + i, none⟩ = some v) :
    ∃ x v, KK x ∧ (loadVar t ⟨b, o0 + off, none⟩).run P w = .ok v w ∧ R c x v ∧ ((isAgg E t = true ∧ notFl x) ∨ (isAgg E t = false ∧ cs[off]? = some x ∧ vs[off]? = some v)) := by
  obtain ⟨x, hk, hs, hh⟩ := ldc_inv hl
  rcases hh with ⟨ha, hle, rfl⟩ | ⟨ha, hx⟩
  · have h1 : RL c ((cs.drop off).take (E.T t).size) ((vs.drop off).take (E.T t).size) := RL_take _ _ _ (RL_drop _ _ _ hr)
    have hlen := RL_length _ _ h1
    have hlen2 := RL_length _ _ hr
    refine ⟨_, _, hk, run_loadVar hE hs (vs := (vs.drop off).take (E.T t).size) (.inl ?_) (fun i v hv => ?_), ?_, .inl ⟨ha, trivial⟩⟩
    · rw [hlen, List.length_take, List.length_drop]; omega
    · rw [List.getElem?_take] at hv
      split at hv
      · rw [List.getElem?_drop] at hv
        rw [Nat.add_assoc]; exact hc _ v hv
      · cases hv
    · rw [if_pos ha]
      simp only [R]
      exact ⟨_, rfl, RL_dm _ _ h1⟩
  · obtain ⟨v, hv, hxv⟩ := RL_get _ _ hr off x hx
    refine ⟨x, v, hk, ?_, hxv, .inr ⟨ha, hx, hv⟩⟩
    have := run_loadVar (P := P) hE (t := t) hs (b := b) (o := o0 + off) (vs := [v]) (w := w) (.inr ⟨ha, rfl⟩) (fun i u hu => by
      cases i with
      | zero => simp at hu; subst hu; exact hc _ _ hv
      | succ i => simp at hu)
    rw [this, ha]; rfl

theorem exec_load {t : Nat} {x : Operand} (ho : o.op = .load t x) {ad : Addr} (he : a.eval x = .pointer (some ad)) {v : Value} (hr : (loadVar t ad).run P w = .ok v w) :
    (execOp a.eval o).run P w = .ok (.value v) w := by
  simp [execOp, ho, Instr.loadAt, he, Instr.sureAddr, hr]

/-- The cells of an object that lies there. -/
theorem obj_cells (h : HRel m f (vals a) w L G ow) {l : Loc} {ver : Nat} {cs : List AV} (hl : look m l = .cells ver cs) :
    ∃ b vs T, Blk L G.H l (look m l) b ∧ w.heap[b]? = some (.cells vs T (0, 0)) ∧ cs.length ≤ vs.size ∧ RL (G.wz w) cs (vs.toList.take cs.length) ∧
      (∀ (i : Nat) (v : Value), (vs.toList.take cs.length)[i]? = some v → w.cell? ⟨b, 0 + i, none⟩ = some v) := by
  obtain ⟨b, h1, h2, h3, h4, h5⟩ := h.ob l (by rw [hl]; trivial)
  rw [hl] at h2
  obtain ⟨vs, T, k1, k2, k3⟩ := h2
  refine ⟨b, vs, T, h1, k1, k2, k3, fun i v hv => ?_⟩
  unfold World.cell?
  have k1' : w.heap[b]? = some (.cells vs T (0, 0)) := k1
  simp only [k1']
  rw [List.getElem?_take] at hv
  split at hv
  · simpa using hv
  · cases hv

theorem R_vec_form {c : Wz} {e n : Nat} {cs : List AV} {b : Bool} {v : Value} (h : R c (.vec b e n cs) v) : (∃ ad k, v = .slice (some ad) n k) ∨ (n = 0 ∧ cs = [] ∧ ∃ A, v = .slice A 0 0 ∧ (b = true → A = none)) := by
  simp only [R] at h
  rcases h with ⟨ad, k, h1, _⟩ | h
  · exact .inl ⟨ad, k, h1⟩
  · exact .inr h

theorem lay_one (cs : List AV) (j : Nat) (x : AV) (h : j < cs.length) : lay cs j [x] = cs.set j x := by
  unfold lay
  rw [List.set_eq_take_append_cons_drop, if_pos h]
  simp

/-- A load out of an object: its right to append may be taken along. -/
theorem fin_load (hE : EOk P E) {t : Nat} {l : Loc} {off ver b : Nat} {cs : List AV} {vs : Array Value} {T : TypeId} (h : HRel m f (vals a) w L G ow) (hd : ∀ x, o.dst = some x → x < a.tmps.size)
    (hl : look m l = .cells ver cs) (hb : Blk L G.H l (look m l) b) (hw : w.heap[b]? = some (.cells vs T (0, 0))) (hsz : cs.length ≤ vs.size) (hr : RL (G.wz w) cs (vs.toList.take cs.length))
    (hc : ∀ (i : Nat) (v : Value), (vs.toList.take cs.length)[i]? = some v → w.cell? ⟨b, 0 + i, none⟩ = some v) {tkm : Bool} {bx : Nat → AObj} {KK : AV → Mem → Prop}
    (hKK : ∀ v m', KK v m' → K ⟨finF false bx o.dst v f, m'⟩)
    (hA : ldc E t cs off fun v => match v with
      | .vec true e l' c => if tkm then KK (.vec true e l' c) (setLook m l (.cells ver (lay cs off [.vec false e l' c]))) else KK (.vec false e l' c) m
      | v => KK v m) : ∃ v, (loadVar t ⟨b, off, none⟩).run P w = .ok v w ∧ Fin a w G K (a.put o.dst v) w := by
  obtain ⟨x, v, hk, hrun, hxv, hh⟩ := load_run hE hA hr hc
  rw [Nat.zero_add] at hrun
  refine ⟨v, hrun, ?_⟩
  by_cases hn : notFl x
  · have hk' : KK x m := by
      cases x with
      | vec bb e n c => cases bb with
        | true => exact hn.elim
        | false => exact hk
      | _ => exact hk
    exact fin_plain h hd (.refl _) (RS_of_R hxv) hn (hKK _ _ hk')
  · cases x with
    | vec bb e n c => cases bb with
      | false => exact absurd trivial hn
      | true =>
        rcases hh with ⟨_, k⟩ | ⟨_, hx, hv⟩
        · exact absurd k hn
        · have hj : off < cs.length := (List.getElem?_eq_some_iff.1 hx).1
          rcases R_vec_form hxv with ⟨ad, k, rfl⟩ | ⟨_, _, A, rfl, hA⟩
          rotate_left
          · have hA := hA rfl
            subst hA
            have hv' : vs[off]? = some (.slice none 0 0) := by
              rw [List.getElem?_take, if_pos hj] at hv; simpa using hv
            cases tkm with
            | false =>
              simp only [Bool.false_eq_true, if_false] at hk
              exact fin_plain h hd (.refl _) (RS_of_R (x := .vec false e n c) (R_dm hxv)) trivial (hKK _ _ hk)
            | true =>
              simp only [if_true] at hk
              rw [lay_one _ _ _ hj] at hk
              have h1 := h.retell hl hb hw hj hv' (y := .vec false e n c) (R_dm hxv) (.inl trivial)
              cases hdst : o.dst with
              | none => exact ⟨_, L, G, ow, hKK _ _ hk, by rw [hdst]; exact h1, .refl _ _, rfl, rfl⟩
              | some d =>
                refine ⟨_, L, G, ow, hKK _ _ hk, ?_, .refl _ _, defers_put _ _ _, size_put _ _ _⟩
                rw [hdst, vals_put (hd d hdst)]
                exact h1.setNil d (RS_of_R hxv) (by simp)
          have hv' : vs[off]? = some (.slice (some ad) n k) := by
            rw [List.getElem?_take, if_pos hj] at hv; simpa using hv
          cases tkm with
          | false =>
            simp only [Bool.false_eq_true, if_false] at hk
            exact fin_plain h hd (.refl _) (RS_of_R (x := .vec false e n c) (R_dm hxv)) trivial (hKK _ _ hk)
          | true =>
            simp only [if_true] at hk
            rw [lay_one _ _ _ hj] at hk
            cases hdst : o.dst with
            | none =>
              have h1 := h.retell hl hb hw hj hv' (y := .vec false e n c) (R_dm hxv) (.inl trivial)
              exact ⟨_, L, G, ow, hKK _ _ hk, by rw [hdst]; exact h1, .refl _ _, rfl, rfl⟩
            | some d =>
              obtain ⟨ow', h1⟩ := h.take d hl hb hw hx hv' hxv
              refine ⟨_, L, G, ow', hKK _ _ hk, ?_, .refl _ _, defers_put _ _ _, size_put _ _ _⟩
              rw [hdst, vals_put (hd d hdst)]; exact h1
    | _ => exact absurd trivial hn

theorem addr_of {l : Loc} {off b : Nat} {ver : Nat} {cs : List AV} {v : Value} (h : HRel m f (vals a) w L G ow) (hrs : RS (G.wz w) m.bx L (.pp l off) v) (hb : Blk L G.H l (.cells ver cs) b)
    (hv : ∀ id, l = .obj id → ver = 0) : v = .pointer (some ⟨b, off, none⟩) := by
  cases l with
  | loc d => simp only [Blk] at hb; subst hb; exact hrs.2
  | obj id =>
    have := hv id rfl; subst this
    simp only [RS, R] at hrs
    obtain ⟨b', h1, h2⟩ := hrs
    rw [h1, h.hf _ _ _ _ h2 hb]

theorem opvs_none (f : Nat → AV) : ∀ (l : List Operand) (k : Nat), opvs f none k l = l.map fun x => dm (evo f x)
  | [], _ => rfl
  | x :: r, k => by simp [opvs, opvs_none f r (k + 1)]

theorem look_obj {m : Mem} {id : Nat} {o : AObj} (h : m.gs[id]? = some o) : look m (.obj id) = o := by simp [look, List.getD_eq_getElem?_getD, h]

theorem s_load (hE : EOk P E) {t : Nat} {x : Operand} (ho : o.op = .load t x) (hA : AO E all o f m K) (h : HRel m f (vals a) w L G ow) (hd : ∀ x, o.dst = some x → x < a.tmps.size) : o.wp P a w (Fin a w G K) Q := by
  have htk : tki E all o = none := by simp [tki, ho]
  unfold AO at hA
  rw [htk, ho] at hA
  simp only [Op.operands, opvs_none, List.map_cons, List.map_nil, isMk, clr] at hA
  have hrs := ev_rs h x
  generalize hc : dm (evo f x) = xc at hA
  cases xc with
  | cp cs off =>
    rw [dm_cp hc] at hrs
    simp only [RS, R] at hrs
    obtain ⟨ad, he, hsp, hle, hrz⟩ := hrs
    simp only [aopC] at hA
    obtain ⟨vs, hr, hcell⟩ := RZ_vals _ _ _ hrz
    obtain ⟨y, v, hk, hrun, hyv, _⟩ := load_run (P := P) (w := w) hE hA hr hcell
    rw [show (ad.off - off) + off = ad.off from by omega] at hrun
    have had : ad = ⟨ad.block, ad.off, none⟩ := by cases ad; simp at hsp; simp [hsp]
    rw [← had] at hrun
    exact wp_value (exec_load ho he hrun) (fin_plain h hd (.refl _) (RS_of_R (R_dm hyv)) (notFl_dm _) hk)
  | pp l off =>
    rw [dm_pp hc] at hrs
    cases l with
    | loc p =>
      simp only [aopC] at hA
      obtain ⟨bx, gs⟩ := m
      simp only at hA
      split at hA
      · rename_i ver cs hbx
        have hl : look ⟨bx, gs⟩ (.loc p) = .cells ver cs := hbx
        obtain ⟨b, vs, T, hb, hw, hsz, hr, hcell⟩ := obj_cells h hl
        obtain ⟨v, hrun, hfin⟩ := fin_load (P := P) (tkm := tkl E all o) (bx := bx) (KK := fun v m' => K ⟨finF false bx o.dst v f, m'⟩) hE h hd hl hb hw hsz hr hcell (fun _ _ k => k) hA
        rw [hl] at hb
        exact wp_value (exec_load ho (addr_of h hrs hb (by simp)) hrun) hfin
      · exact hA.elim
    | obj id =>
      simp only [aopC] at hA
      split at hA
      · exact hA.elim
      obtain ⟨cs, hgs, hA⟩ := hA
      have hl : look m (.obj id) = .cells 0 cs := look_obj hgs
      obtain ⟨b, vs, T, hb, hw, hsz, hr, hcell⟩ := obj_cells h hl
      obtain ⟨bx, gs⟩ := m
      obtain ⟨v, hrun, hfin⟩ := fin_load (P := P) (tkm := tkl E all o) (bx := bx) (KK := fun v m' => K ⟨finF false bx o.dst v f, m'⟩) hE h hd hl hb hw hsz hr hcell (fun _ _ k => k) hA
      rw [hl] at hb
      exact wp_value (exec_load ho (addr_of h hrs hb (fun _ _ => rfl)) hrun) hfin
  | _ => exact hA.elim

/-! ### Stores -/
/-- Cells written into a row, one by one. -/
theorem run_storeCells {P : Program} {b : Nat} {T : TypeId} : ∀ (us : List Value) (w : World) (o i : Nat) (vs : Array Value), w.heap[b]? = some (.cells vs T (0, 0)) → o + i + us.length ≤ vs.size →
    (∀ v ∈ us, v.oneCell' = true) → ∃ w' vs', (storeCells ⟨b, o, none⟩ us i).run P w = .ok () w' ∧ w'.heap[b]? = some (.cells vs' T (0, 0)) ∧ vs'.size = vs.size ∧
      (∀ j, j < o + i → vs'[j]? = vs[j]?) ∧ (∀ j, o + i + us.length ≤ j → vs'[j]? = vs[j]?) ∧ (∀ (j : Nat) (v : Value), us[j]? = some v → vs'[o + i + j]? = some v) ∧
      (∀ c, c ≠ b → w'.heap[c]? = w.heap[c]?) ∧ w'.heap.size = w.heap.size ∧ w'.os = w.os ∧ w'.output = w.output ∧ w'.tape = w.tape
  | [], w, o, i, vs, hw, _, _ => ⟨w, vs, by simp [storeCells], hw, rfl, fun _ _ => rfl, fun _ _ => rfl, by simp, fun _ _ => rfl, rfl, rfl, rfl, rfl⟩
  | v :: us, w, o, i, vs, hw, hle, h1 => by
    have hadd : (⟨b, o, none⟩ : Addr).add i = ⟨b, o + i, none⟩ := Addr.add_lit _ _ _
    have hlt : o + i < vs.size := by simp at hle; omega
    have hcell : w.cell? ⟨b, o + i, none⟩ = some vs[o + i] := by
      unfold World.cell?; simp [hw, hlt]
    have hfr : w.frozen? ⟨b, o + i, none⟩ = false := by
      unfold World.frozen?; simp [hw]
    have hst : (store ⟨b, o + i, none⟩ v).run P w = .ok () (w.setCell ⟨b, o + i, none⟩ v) := by
      have hv : v.oneCell' = true := h1 v (by simp)
      rw [run_store _ _ _ _ _ hv]
      simp [stored, hcell, hfr]
    have hnew : (w.setCell ⟨b, o + i, none⟩ v).heap[b]? = some (.cells (vs.setIfInBounds (o + i) v) T (0, 0)) := heap_setCell_same w b (o + i) vs T v hw
    obtain ⟨w', vs', k1, k2, k3, k4, k5, k6, k7, k8, k9, k10, k11⟩ := run_storeCells us (w.setCell ⟨b, o + i, none⟩ v) o (i + 1) _ hnew (by simp at hle ⊢; omega) (fun u hu => h1 u (by simp [hu]))
    refine ⟨w', vs', ?_, k2, by rw [k3]; simp, ?_, ?_, ?_, ?_, by rw [k8]; simp, k9, k10, k11⟩
    · rw [storeCells, Sem.run_bind, hadd, hst, Result.andThen_ok]; exact k1
    · intro j hj
      rw [k4 j (by omega), Array.getElem?_setIfInBounds_ne (by omega)]
    · intro j hj
      simp at hj
      rw [k5 j (by omega), Array.getElem?_setIfInBounds_ne (by omega)]
    · intro j u hu
      cases j with
      | zero =>
        simp at hu; subst hu
        rw [k4 _ (by omega)]
        simp [hlt]
      | succ j =>
        have := k6 j u (by simpa using hu)
        rwa [show o + i + (j + 1) = o + (i + 1) + j from by omega]
    · intro c hc
      rw [k7 c hc]
      exact heap_setCell_other w ⟨b, o + i, none⟩ c v hc

theorem lay_length (cs vs : List AV) (off : Nat) (h : off + vs.length ≤ cs.length) : (lay cs off vs).length = cs.length := by
  unfold lay; simp; omega
theorem RL_ext {c : Wz} : ∀ (xs : List AV) (vs : List Value), vs.length = xs.length → (∀ (i : Nat) (x : AV) (v : Value), xs[i]? = some x → vs[i]? = some v → R c x v) → RL c xs vs
  | [], vs, hl, _ => by simp at hl; subst hl; exact RL_nil
  | x :: xs, [], hl, _ => by simp at hl
  | x :: xs, v :: vs, hl, h => RL_cons.2 ⟨h 0 x v rfl rfl, RL_ext xs vs (by simpa using hl) fun i y u hy hu => h (i + 1) y u (by simpa using hy) (by simpa using hu)⟩
theorem lay_get (cs vs : List AV) (off : Nat) (h : off + vs.length ≤ cs.length) (i : Nat) : (lay cs off vs)[i]? = if i < off then cs[i]? else if i < off + vs.length then vs[i - off]? else cs[i]? := by
  unfold lay
  rw [List.append_assoc]
  by_cases h1 : i < off
  · rw [if_pos h1, List.getElem?_append_left (by simp; omega), List.getElem?_take, if_pos h1]
  · rw [if_neg h1, List.getElem?_append_right (by simp; omega)]
    simp only [List.length_take]
    rw [show i - min off cs.length = i - off from by omega]
    by_cases h2 : i < off + vs.length
    · rw [if_pos h2, List.getElem?_append_left (by omega)]
    · rw [if_neg h2, List.getElem?_append_right (by omega), List.getElem?_drop]
      congr 1; omega

theorem oneCell_of {c : Wz} {x : AV} {v : Value} (h : R c x v) (hx : okc x = true) : v.oneCell' = true := by
  cases x with
  | undef => simp [okc] at hx
  | sc v' => simp only [R] at h; subst h; cases v <;> first | rfl | simp [okc] at hx
  | vec _ _ _ _ => simp only [R] at h; rcases h with ⟨ad, k, rfl, _⟩ | ⟨_, _, _, rfl, _⟩ <;> rfl
  | agg _ => simp [okc] at hx
  | tup _ => simp [okc, okv] at hx
  | fn _ _ _ => simp only [R] at h; obtain ⟨as, bs, rfl, _⟩ := h; rfl
  | ifc _ _ => simp only [R] at h; obtain ⟨v, rfl, _⟩ := h; rfl
  | pp l _ => cases l with
    | loc _ => simp [okc, okv] at hx
    | obj _ => simp only [R] at h; obtain ⟨b, rfl, _⟩ := h; rfl
  | cp _ _ => simp only [R] at h; obtain ⟨ad, rfl, _⟩ := h; rfl
  | mp l => cases l with
    | loc _ => simp [okc, okv] at hx
    | obj _ => simp only [R] at h; obtain ⟨b, rfl, _⟩ := h; rfl
  | ap l _ _ _ => cases l with
    | loc _ => simp [okc, okv] at hx
    | obj _ => simp only [R] at h; obtain ⟨b, rfl, _⟩ := h; rfl
end
end Go.Proofs.YtjchgncgkhofhaaGreat.AL
/- The A-logic: the operations, one by one (stores, boxes, addresses, literals, tests). -/
set_option linter.unusedVariables false
set_option linter.unusedSimpArgs false
namespace Go.Proofs.YtjchgncgkhofhaaGreat.AL
open Go
section
variable {P : Program} {E : Env} {all : List Oper} {o : Oper} {m : Mem} {f : Nat → AV} {a : Act} {w : World} {L : Nat → Nat} {G : Gh} {ow : Nat → Option Pos} {K : ASt → Prop} {Q : Exit → Act → World → Prop}

/-- Cells of an object are written with values that bear no right to append. -/
theorem store_obj (h : HRel m f (vals a) w L G ow) {l : Loc} {ver off b : Nat} {cs : List AV} {vs : Array Value} {T : TypeId} (hl : look m l = .cells ver cs) (hb : Blk L G.H l (look m l) b)
    (hw : w.heap[b]? = some (.cells vs T (0, 0))) (hsz : cs.length ≤ vs.size) (hr : RL (G.wz w) cs (vs.toList.take cs.length)) {xs : List AV} {us : List Value} (hx : RL (G.wz w) xs us)
    (hok : xs.all okc = true) (hle : off + xs.length ≤ cs.length) (hn : ∀ x ∈ xs, notFl x) :
    ∃ w' vs', (storeCells ⟨b, off, none⟩ us).run P w = .ok () w' ∧ HRel (setLook m l (.cells ver (lay cs off xs))) f (vals a) w' L G ow ∧ Ext w G w' G ∧
      w'.heap[b]? = some (.cells vs' T (0, 0)) ∧ (∀ (j : Nat) (v : Value), us[j]? = some v → vs'[off + j]? = some v) := by
  have hlen := RL_length _ _ hx
  have h1 : ∀ v ∈ us, v.oneCell' = true := by
    intro v hv
    obtain ⟨i, hi⟩ := List.getElem?_of_mem hv
    have hil : i < xs.length := by rw [← hlen]; exact (List.getElem?_eq_some_iff.1 hi).1
    obtain ⟨u, hu, hRu⟩ := RL_get _ _ hx i xs[i] (List.getElem?_eq_getElem hil)
    rw [hi] at hu; injection hu with hu; subst hu
    exact oneCell_of hRu (List.all_eq_true.1 hok _ (List.getElem_mem hil))
  obtain ⟨w', vs', k1, k2, k3, k4, k5, k6, k7, k8, k9, k10, k11⟩ := run_storeCells (P := P) us w off 0 vs hw (by omega) h1
  simp only [Nat.add_zero] at k4 k5 k6
  have hput : HRel (setLook m l (.cells ver (lay cs off xs))) f (vals a) w' L G ow ∧ Ext w G w' G := by
    refine h.putObj (w' := w') (o' := .cells ver (lay cs off xs)) (by rw [hl]; rfl) hb k7 k8 k9 k10 k11 ?_ ?_
    · intro hle'
      refine ⟨vs', T, k2, by rw [lay_length _ _ _ hle]; omega, RL_ext _ _ (by rw [lay_length _ _ _ hle, List.length_take, Array.length_toList (xs := vs'), k3]; omega) fun i x v hxi hvi => ?_⟩
      rw [lay_get _ _ _ hle] at hxi
      rw [lay_length _ _ _ hle, List.getElem?_take] at hvi
      split at hvi
      case isFalse => cases hvi
      rename_i hil
      have hvi' : vs'[i]? = some v := by simpa using hvi
      split at hxi
      · rename_i h2
        rw [k4 i h2] at hvi'
        obtain ⟨u, hu, hRu⟩ := RL_get _ _ hr i x hxi
        rw [List.getElem?_take, if_pos hil] at hu
        have : vs[i]? = some u := by simpa using hu
        rw [hvi'] at this; injection this with this; subst this
        exact R_mono hle' _ _ hRu
      · rename_i h2
        split at hxi
        · rename_i h3
          obtain ⟨u, hu, hRu⟩ := RL_get _ _ hx _ x hxi
          have := k6 _ _ hu
          rw [show off + (i - off) = i from by omega, hvi'] at this
          injection this with this; subst this
          exact R_mono hle' _ _ hRu
        · rename_i h3
          rw [k5 i (by omega)] at hvi'
          obtain ⟨u, hu, hRu⟩ := RL_get _ _ hr i x hxi
          rw [List.getElem?_take, if_pos hil] at hu
          have : vs[i]? = some u := by simpa using hu
          rw [hvi'] at this; injection this with this; subst this
          exact R_mono hle' _ _ hRu
    · intro ver' cs' vs1 T1 j x v e1 e2 e3 e4
      injection e1 with e1 e1'; subst e1'
      rw [lay_get _ _ _ hle] at e3
      rw [k2] at e2; injection e2 with e2; injection e2 with e2 _; subst e2
      split at e3
      · rename_i h2
        rw [k4 j h2] at e4
        exact .inr ⟨ver, cs, vs, T, hl, hw, e3, e4⟩
      · rename_i h2
        split at e3
        · exact .inl (.inl (hn x (List.mem_of_getElem? e3)))
        · rename_i h3
          rw [k5 j (by omega)] at e4
          exact .inr ⟨ver, cs, vs, T, hl, hw, e3, e4⟩
  exact ⟨w', vs', k1, hput.1, hput.2, k2, k6⟩

theorem cells_R {c : Wz} {x : AV} {v : Value} (h : R c x v) (hx : x ≠ .undef) (hs : ∀ u, x ≠ .sc (.agg u)) : RL c x.cells v.cells.toList := by
  cases x with
  | agg cs => simp only [R] at h; obtain ⟨vs, rfl, h⟩ := h; simpa [AV.cells, Value.cells] using h
  | undef => exact absurd rfl hx
  | sc u =>
    simp only [R] at h; subst h
    cases v with
    | agg u => exact absurd rfl (hs u)
    | _ => exact RL_cons.2 ⟨by simp [R], RL_nil⟩
  | vec _ _ _ _ => have h' := h; simp only [R] at h; rcases h with ⟨ad, k, rfl, _⟩ | ⟨_, _, _, rfl, _⟩ <;> exact RL_cons.2 ⟨h', RL_nil⟩
  | tup _ => have h' := h; simp only [R] at h; obtain ⟨ad, rfl, _⟩ := h; exact RL_cons.2 ⟨h', RL_nil⟩
  | fn _ _ _ => have h' := h; simp only [R] at h; obtain ⟨as, bs, rfl, _⟩ := h; exact RL_cons.2 ⟨h', RL_nil⟩
  | ifc _ _ => have h' := h; simp only [R] at h; obtain ⟨v, rfl, _⟩ := h; exact RL_cons.2 ⟨h', RL_nil⟩
  | pp l _ => have h' := h; cases l with
    | loc _ => simp [R] at h
    | obj _ => simp only [R] at h; obtain ⟨b, rfl, _⟩ := h; exact RL_cons.2 ⟨h', RL_nil⟩
  | cp _ _ => have h' := h; simp only [R] at h; obtain ⟨ad, rfl, _⟩ := h; exact RL_cons.2 ⟨h', RL_nil⟩
  | mp l => have h' := h; cases l with
    | loc _ => simp [R] at h
    | obj _ => simp only [R] at h; obtain ⟨b, rfl, _⟩ := h; exact RL_cons.2 ⟨h', RL_nil⟩
  | ap l _ _ _ => have h' := h; cases l with
    | loc _ => simp [R] at h
    | obj _ => simp only [R] at h; obtain ⟨b, rfl, _⟩ := h; exact RL_cons.2 ⟨h', RL_nil⟩

theorem okv_of_cells {x : AV} (hok : x.cells.all okc = true) : okv x = true := by
  cases x with
  | agg _ => rfl
  | tup _ => simp [AV.cells, okc, okv] at hok
  | pp l _ => cases l with
    | loc _ => simp [AV.cells, okc, okv] at hok
    | obj _ => rfl
  | mp l => cases l with
    | loc _ => simp [AV.cells, okc, okv] at hok
    | obj _ => rfl
  | ap l _ _ _ => cases l with
    | loc _ => simp [AV.cells, okc, okv] at hok
    | obj _ => rfl
  | _ => rfl

/-- The cells of a slot's value, where they may lie in memory. -/
theorem cells_RS {c : Wz} {bx : Nat → AObj} {x : AV} {v : Value} (h : RS c bx L x v) (hok : x.cells.all okc = true) : RL c x.cells v.cells.toList := by
  refine cells_R (R_of_RS h (okv_of_cells hok)) ?_ ?_
  · rintro rfl; simp [AV.cells, okc] at hok
  · rintro u rfl; simp [AV.cells, okc] at hok

theorem okc_dm (x : AV) : okc (dm x) = okc x := by cases x <;> rfl
theorem stc_all {x : AV} (h : x.stc.all okc = true) : x.cells.all okc = true := by
  cases x with
  | agg cs =>
    simp only [AV.stc, AV.cells, List.all_map] at h ⊢
    rw [List.all_eq_true] at h ⊢
    intro y hy
    have := h y hy
    simpa [okc_dm] using this
  | _ => exact h
theorem stc_len (x : AV) : x.stc.length = x.cells.length := by cases x <;> simp [AV.stc, AV.cells]
theorem stc_RS {c : Wz} {bx : Nat → AObj} {x : AV} {v : Value} (h : RS c bx L x v) (hok : x.stc.all okc = true) : RL c x.stc v.cells.toList := by
  have h1 := cells_RS h (stc_all hok)
  cases x with
  | agg cs => exact RL_dm _ _ h1
  | _ => exact h1

theorem exec_store {t : Nat} {x y : Operand} (ho : o.op = .store t x y) {b off : Nat} (he : a.eval x = .pointer (some ⟨b, off, none⟩)) {i : TypeInfo} (hi : P.info? t = some i)
    (hsz : (a.eval y).cells.size = i.size) {w' : World} (hr : (storeCells ⟨b, off, none⟩ (a.eval y).cells.toList).run P w = .ok () w') : (execOp a.eval o).run P w = .ok .skip w' := by
  simp [execOp, ho, Instr.storeAt, he, Instr.sureAddr, storeVar, run_sizeOf hi, hsz, hr]

theorem evo_opv {tk : Option Nat} {k : Nat} {x : Operand} : (if tk = some k then evo f x else dm (evo f x)) = evo f x ∨ (if tk = some k then evo f x else dm (evo f x)) = dm (evo f x) := by
  split
  · exact .inl rfl
  · exact .inr rfl

/-- A store into an object, whatever is stored. -/
theorem fin_store (hE : EOk P E) {t : Nat} {x y : Operand} (ho : o.op = .store t x y) {l : Loc} {off ver : Nat} {cs : List AV} (h : HRel m f (vals a) w L G ow) (hd : ∀ x, o.dst = some x → x < a.tmps.size)
    (hrs : RS (G.wz w) m.bx L (.pp l off) (a.eval x)) (hv : ∀ id, l = .obj id → ver = 0) (hl : look m l = .cells ver cs) (hok : (evo f y).stc.all okc = true) (hs0 : (E.T t).size ≠ 0) (hsz : (evo f y).stc.length = (E.T t).size)
    (hle : off + (evo f y).stc.length ≤ cs.length)
    (hK : K ⟨finF false m.bx o.dst .undef (clr f (some 1) [x, y]), setLook m l (.cells ver (lay cs off (evo f y).stc))⟩) : o.wp P a w (Fin a w G K) Q := by
  obtain ⟨b, vs, T, hb, hw, hsz', hr, hcell⟩ := obj_cells h hl
  have hb' := hb
  rw [hl] at hb'
  have he := addr_of h hrs hb' hv
  have hry := ev_rs h y
  have hcr := stc_RS hry hok
  obtain ⟨i, d, hi, hdd, h1, h2, h3⟩ := ty_info hE hs0
  have hcs : (a.eval y).cells.size = i.size := by
    have := RL_length _ _ hcr
    rw [Array.length_toList] at this; omega
  by_cases hfl : ∃ e n c, evo f y = .vec true e n c
  · -- one cell that bears the right to append
    obtain ⟨e, n, c, hy⟩ := hfl
    obtain ⟨s, rfl⟩ := evo_fl (f := f) (x := y) (by rw [hy]; simp [notFl])
    have hfs : f s = .vec true e n c := hy
    have hcr' : RL (G.wz w) [.vec false e n c] (a.eval (.tmp s)).cells.toList := by
      rw [hy] at hcr; exact RL_dm _ _ hcr
    obtain ⟨w', vs', k1, k2, k3, k4, k5⟩ := store_obj (P := P) (off := off) h hl hb hw hsz' hr hcr' (by simp [okc, okv]) (by rw [hy] at hle; simpa [AV.stc] using hle) (by simp [notFl])
    have hoff : off < cs.length := by rw [hy] at hle; simp [AV.stc] at hle; omega
    rw [lay_one _ _ _ hoff] at k2
    have hal : alive (look m l) := by rw [hl]; trivial
    have hl2 : look (setLook m l (.cells ver (cs.set off (.vec false e n c)))) l = .cells ver (cs.set off (.vec false e n c)) := by rw [look_setLook m l _ hal, if_pos rfl]
    have hval : (a.eval (.tmp s)).cells = #[a.eval (.tmp s)] := by
      rcases R_vec_form (R_of_RS (by rw [← hy]; exact hry : RS (G.wz w) m.bx L (.vec true e n c) (a.eval (.tmp s))) rfl) with ⟨ad, kk, e⟩ | ⟨_, _, _, e, _⟩ <;> rw [e] <;> rfl
    have hvv : vs'[off]? = some (vals a s) := by
      have : vs'[off + 0]? = some (vals a s) := k5 0 (a.eval (.tmp s)) (by rw [hval]; rfl)
      exact this
    obtain ⟨ow', r⟩ := k2.give s (e := e) (n := n) (c := c) hfs hl2 (by rw [hl2]; exact (Blk_kind (o := .cells ver cs) (o' := .cells ver (cs.set off (.vec false e n c))) rfl).1 hb') k4 (by rw [List.getElem?_set_self hoff]) hvv
    have hss : ∀ o1 o2, setLook (setLook m l o1) l o2 = setLook m l o2 := by
      intro o1 o2
      cases l with
      | loc p => simp only [setLook]; congr 1; funext q; simp only [upd]; split <;> rfl
      | obj p => simp [setLook]
    rw [hss, List.set_set] at r
    have hclr : clr f (some 1) [x, .tmp s] = upd f s (.vec false e n c) := by simp [clr, hfs]
    rw [hclr, hy] at hK
    simp only [AV.stc] at hK
    rw [lay_one _ _ _ hoff] at hK
    exact wp_skipop (exec_store ho he hi hcs k1) ⟨_, L, G, ow', hK, r.putd hd (x := .undef) (by simp [RS, R]) trivial m.bx, k3, defers_put _ _ _, size_put _ _ _⟩
  · have hn : ∀ z ∈ (evo f y).stc, notFl z := by
      intro z hz
      cases hy : evo f y with
      | agg u =>
        rw [hy] at hz
        simp only [AV.stc, List.mem_map] at hz
        obtain ⟨q, _, rfl⟩ := hz
        exact notFl_dm q
      | vec bb e n c =>
        rw [hy] at hz; simp only [AV.stc, List.mem_singleton] at hz; subst hz
        cases bb with
        | true => exact absurd ⟨e, n, c, hy⟩ hfl
        | false => trivial
      | _ => rw [hy] at hz; simp only [AV.stc, List.mem_singleton] at hz; subst hz; trivial
    obtain ⟨w', vs', k1, k2, k3, k4, k5⟩ := store_obj (P := P) (off := off) h hl hb hw hsz' hr hcr hok hle hn
    exact wp_skipop (exec_store ho he hi hcs k1) ⟨_, L, G, ow, hK, (k2.clr _ _).putd hd (x := .undef) (by simp [RS, R]) trivial m.bx, k3, defers_put _ _ _, size_put _ _ _⟩

theorem s_store (hE : EOk P E) {t : Nat} {x y : Operand} (ho : o.op = .store t x y) (hA : AO E all o f m K) (h : HRel m f (vals a) w L G ow) (hd : ∀ x, o.dst = some x → x < a.tmps.size) : o.wp P a w (Fin a w G K) Q := by
  have htk : tki E all o = some 1 := by simp [tki, ho]
  unfold AO at hA
  rw [htk, ho] at hA
  simp only [Op.operands, opvs, isMk, Option.some.injEq, Nat.reduceAdd, reduceCtorEq, if_true, Nat.zero_ne_one, Nat.one_ne_zero, if_false] at hA
  have hrs := ev_rs h x
  generalize hc : dm (evo f x) = xc at hA
  cases xc with
  | pp l off =>
    rw [dm_pp hc] at hrs
    cases l with
    | loc p =>
      simp only [aopC, frcL_eq] at hA
      split at hA
      · exact hA.elim
      rename_i hs0
      split at hA
      case isFalse => exact hA.elim
      rename_i hh
      obtain ⟨bx, gs⟩ := m
      simp only at hA
      split at hA
      case h_2 => exact hA.elim
      rename_i ver cs hbx
      split at hA
      case isFalse => exact hA.elim
      rename_i hle
      exact fin_store hE ho h hd hrs (by simp) (show look ⟨bx, gs⟩ (.loc p) = .cells ver cs from hbx) hh.2 hs0 hh.1 hle hA
    | obj id =>
      simp only [aopC, frcL_eq] at hA
      split at hA
      · exact hA.elim
      rename_i hs0
      split at hA
      case isFalse => exact hA.elim
      rename_i hh
      obtain ⟨bx, gs⟩ := m
      obtain ⟨cs, hgs, hle, hA⟩ := hA
      exact fin_store hE ho h hd hrs (fun _ _ => rfl) (look_obj hgs) hh.2 hs0 hh.1 hle hA
  | _ => exact hA.elim
end
end Go.Proofs.YtjchgncgkhofhaaGreat.AL
/- The A-logic: the operations, one by one (boxes, maps made, addresses, fields, tests). -/
set_option linter.unusedVariables false
set_option linter.unusedSimpArgs false
namespace Go.Proofs.YtjchgncgkhofhaaGreat.AL
open Go
section
variable {P : Program} {E : Env} {all : List Oper} {o : Oper} {m : Mem} {f : Nat → AV} {a : Act} {w : World} {L : Nat → Nat} {G : Gh} {ow : Nat → Option Pos} {K : ASt → Prop} {Q : Exit → Act → World → Prop}

/-- What an object is behind its making. -/
theorem fin_make (h : HRel m f (vals a) w L G ow) {d : Nat} (hdst : o.dst = some d) (hd : ∀ x, o.dst = some x → x < a.tmps.size) {ob : AObj} {O : Obj} (ha : alive ob)
    (hv0 : ∀ ver cs, ob = .cells ver cs → ver = 0) (ho : ∀ c, Wz.le (G.wz w) c → c.w = w.alloc O → ORel c w.heap.size ob) (hn : ∀ (ver : Nat) (cs : List AV) (j : Nat) (x : AV), ob = .cells ver cs → cs[j]? = some x → notFl x)
    {pl : Loc → AV} {pv : Value} (hlocc : ∀ cs, ob = .cells 0 cs → pl = fun l => .pp l 0) (hlocm : ∀ es, ob = .map es → pl = fun l => .mp l)
    (hpvc : ∀ cs, ob = .cells 0 cs → pv = .pointer (some ⟨w.heap.size, 0, none⟩)) (hpvm : ∀ es, ob = .map es → pv = .map (some w.heap.size))
    (hA : if E.esc d then K ⟨finF true m.bx o.dst (pl (.obj m.gs.length)) f, ⟨m.bx, m.gs ++ [ob]⟩⟩ else K ⟨finF true m.bx o.dst (pl (.loc d)) f, ⟨upd m.bx d ob, m.gs⟩⟩) :
    Fin a w G K (a.put o.dst pv) (w.alloc O) := by
  have hpn : ∀ l, notFl (pl l) := by
    intro l
    cases ob with
    | dead => exact ha.elim
    | cells ver cs => have := hv0 ver cs rfl; subst this; rw [hlocc cs rfl]; trivial
    | map es => rw [hlocm es rfl]; trivial
  have hd' := hd d hdst
  split at hA
  · rename_i he
    -- the box escapes
    obtain ⟨G', ow', h1, h2, h3⟩ := h.newObj O ha hv0 ho hn
    -- slot d may have pointed at an elder local box d: such a one is struck
    have hpoint : RS (G'.wz (w.alloc O)) m.bx L (pl (.obj m.gs.length)) pv := by
      cases ob with
      | dead => exact ha.elim
      | cells ver cs =>
        have := hv0 ver cs rfl; subst this; rw [hlocc cs rfl, hpvc cs rfl]
        simp only [RS, R]; exact ⟨_, rfl, h3⟩
      | map es =>
        rw [hlocm es rfl, hpvm es rfl]
        simp only [RS, R]; exact ⟨_, rfl, h3⟩
    have hkill : HRel ⟨m.bx, m.gs ++ [ob]⟩ (match m.bx d with | .dead => f | _ => killF d f) (vals a) (w.alloc O) L G' ow' := by
      split
      · exact h1
      · exact h1.strike d
    refine ⟨⟨finF true m.bx o.dst (pl (.obj m.gs.length)) f, ⟨m.bx, m.gs ++ [ob]⟩⟩, L, G', ow', hA, ?_, h2, defers_put _ _ _, size_put _ _ _⟩
    rw [hdst, vals_put hd']
    have := hkill.set d hpoint (hpn _)
    simp only [finF]
    cases hb : m.bx d <;> rw [hb] at this <;> exact this
  · rename_i he
    have h1 := h.newLoc d O ha (fun hle => ho _ hle rfl) hn
    have hpoint : RS (G.wz (w.alloc O)) (upd m.bx d ob) (upd L d w.heap.size) (pl (.loc d)) pv := by
      cases ob with
      | dead => exact ha.elim
      | cells ver cs =>
        have := hv0 ver cs rfl; subst this; rw [hlocc cs rfl, hpvc cs rfl]
        simp only [RS, upd_at]; exact ⟨⟨_, _, rfl⟩, trivial⟩
      | map es =>
        rw [hlocm es rfl, hpvm es rfl]
        simp only [RS, upd_at]; exact ⟨⟨_, rfl⟩, trivial⟩
    refine ⟨⟨finF true m.bx o.dst (pl (.loc d)) f, ⟨upd m.bx d ob, m.gs⟩⟩, upd L d w.heap.size, G, upd ow w.heap.size (some (.blk (.loc d))), hA, ?_, (Grow.alloc w O).ext h.zb (fun b k => (h.fb b k).1), defers_put _ _ _, size_put _ _ _⟩
    rw [hdst, vals_put hd']
    have hfin : finF true m.bx (some d) (pl (.loc d)) f = upd (killF d f) d (pl (.loc d)) := by
      simp only [finF]
      cases hb : m.bx d with
      | dead => simp only [killF_id h hb]
      | _ => rfl
    rw [hfin]
    exact h1.set d hpoint (hpn _)

theorem run_alloc {t : TypeId} {i : TypeInfo} {v : Value} (hi : P.info? t = some i) (hz : i.zero = some v) (w : World) :
    (Instr.alloc t true (.tuple #[])).run P w = .ok (.pointer (some ⟨w.heap.size, 0, none⟩)) (w.alloc (.cells v.cells t (0, 0))) := by
  simp [Instr.alloc, run_zeroValue hi hz, newVar, newRow]

theorem s_alloc (hE : EOk P E) {t : Nat} (ho : o.op = .alloc t) (hA : AO E all o f m K) (h : HRel m f (vals a) w L G ow) (hd : ∀ x, o.dst = some x → x < a.tmps.size) : o.wp P a w (Fin a w G K) Q := by
  have htk : tki E all o = none := by simp [tki, ho]
  unfold AO at hA
  rw [htk, ho] at hA
  simp only [Op.operands, opvs_none, isMk, clr] at hA
  cases hdst : o.dst with
  | none => rw [hdst] at hA; exact hA.elim
  | some d =>
    rw [hdst] at hA
    cases hz : (E.T t).zero with
    | none => simp only [aopC, hz] at hA
    | some z =>
      obtain ⟨i, v, hi, hzv, rfl, _⟩ := ty_zero hE hz
      have hrun := run_alloc hi hzv w
      refine wp_value (v := .pointer (some ⟨w.heap.size, 0, none⟩)) (w' := w.alloc (.cells v.cells t (0, 0))) (by simp [execOp, ho, hrun]) ?_
      refine fin_make (E := E) (ob := .cells 0 (v.cells.toList.map .sc)) (pl := fun l => .pp l 0) h hdst hd trivial (fun _ _ e => by injection e with e _; exact e.symm) ?_ ?_ (fun _ _ => rfl) (fun _ e => by cases e) (fun _ _ => rfl) (fun _ e => by cases e) ?_
      · intro c hc hcw
        refine ⟨v.cells, t, by rw [hcw]; exact heap_alloc_new _ _, by simp, ?_⟩
        rw [List.take_of_length_le (by simp)]
        exact RL_sc _
      · intro ver cs j x e hx
        injection e with _ e; subst e
        rw [List.getElem?_map] at hx
        cases hq : (v.cells.toList)[j]? with
        | none => rw [hq] at hx; cases hx
        | some u => rw [hq] at hx; injection hx with hx; subst hx; trivial
      · simp only [aopC, hz] at hA
        obtain ⟨bx, gs⟩ := m
        rw [hdst]
        exact hA

theorem s_box (hE : EOk P E) {t : Nat} {x : Operand} (ho : o.op = .box t x) (hA : AO E all o f m K) (h : HRel m f (vals a) w L G ow) (hd : ∀ x, o.dst = some x → x < a.tmps.size) : o.wp P a w (Fin a w G K) Q := by
  have htk : tki E all o = none := by simp [tki, ho]
  unfold AO at hA
  rw [htk, ho] at hA
  simp only [Op.operands, opvs_none, List.map_cons, List.map_nil, isMk, clr] at hA
  cases hdst : o.dst with
  | none => rw [hdst] at hA; exact hA.elim
  | some d =>
    rw [hdst] at hA
    simp only [aopC, frcL_eq] at hA
    split at hA
    · exact hA.elim
    rename_i hok
    have hok' : ((dm (evo f x)).cells.map dm).all okc = true := by
      cases hq : ((dm (evo f x)).cells.map dm).all okc with
      | true => rfl
      | false => exact absurd hq hok
    have hok2 : (dm (evo f x)).cells.all okc = true := by
      rw [List.all_map] at hok'
      rw [List.all_eq_true] at hok' ⊢
      intro y hy
      have := hok' y hy
      simpa [okc_dm] using this
    have hcr := cells_RS (RS_dm (ev_rs h x)) hok2
    have hrun : (Instr.box t (a.eval x)).run P w = .ok (.pointer (some ⟨w.heap.size, 0, none⟩)) (w.alloc (.cells (a.eval x).cells t (0, 0))) := by
      simp [Instr.box, newVar, newRow]
    refine wp_value (v := .pointer (some ⟨w.heap.size, 0, none⟩)) (w' := w.alloc (.cells (a.eval x).cells t (0, 0))) (by simp [execOp, ho, hrun]) ?_
    refine fin_make (E := E) (ob := .cells 0 ((dm (evo f x)).cells.map dm)) (pl := fun l => .pp l 0) h hdst hd trivial (fun _ _ e => by injection e with e _; exact e.symm) ?_ ?_ (fun _ _ => rfl) (fun _ e => by cases e) (fun _ _ => rfl) (fun _ e => by cases e) ?_
    · intro c hc hcw
      have hlen := RL_length _ _ hcr
      refine ⟨(a.eval x).cells, t, by rw [hcw]; exact heap_alloc_new _ _, ?_, ?_⟩
      · rw [List.length_map, ← hlen, Array.length_toList]; exact Nat.le_refl _
      · rw [List.take_of_length_le (by rw [List.length_map, ← hlen]; exact Nat.le_refl _)]
        exact RL_mono hc _ _ (RL_dm _ _ hcr)
    · intro ver cs j y e hx
      injection e with _ e; subst e
      rw [List.getElem?_map] at hx
      cases hq : ((dm (evo f x)).cells)[j]? with
      | none => rw [hq] at hx; cases hx
      | some u => rw [hq] at hx; injection hx with hx; subst hx; exact notFl_dm _
    · obtain ⟨bx, gs⟩ := m
      rw [hdst]
      exact hA

theorem s_makeMap (hE : EOk P E) {t : Nat} (ho : o.op = .makeMap t none) (hA : AO E all o f m K) (h : HRel m f (vals a) w L G ow) (hd : ∀ x, o.dst = some x → x < a.tmps.size) : o.wp P a w (Fin a w G K) Q := by
  have htk : tki E all o = none := by simp [tki, ho]
  unfold AO at hA
  rw [htk, ho] at hA
  simp only [Op.operands, opvs_none, isMk, clr] at hA
  cases hdst : o.dst with
  | none => rw [hdst] at hA; exact hA.elim
  | some d =>
    rw [hdst] at hA
    have hrun : (Instr.makeMap t (none : Option Value)).run P w = .ok (.map (some w.heap.size)) (w.alloc (.map #[] 0)) := by
      simp [Instr.makeMap]
    refine wp_value (v := .map (some w.heap.size)) (w' := w.alloc (.map #[] 0)) (by simp [execOp, ho, hrun]) ?_
    refine fin_make (E := E) (ob := .map []) (pl := fun l => .mp l) h hdst hd trivial (fun _ _ e => by cases e) ?_ (fun _ _ _ _ e => by cases e) (fun _ e => by cases e) (fun _ _ => rfl) (fun _ e => by cases e) (fun _ _ => rfl) ?_
    · intro c hc hcw
      exact ⟨#[], 0, by rw [hcw]; exact heap_alloc_new _ _, rfl⟩
    · simp only [aopC] at hA
      obtain ⟨bx, gs⟩ := m
      rw [hdst]
      exact hA
end
end Go.Proofs.YtjchgncgkhofhaaGreat.AL
/- The A-logic: the operations, one by one (tests, numbers, strings, parts). -/
set_option linter.unusedVariables false
set_option linter.unusedSimpArgs false
namespace Go.Proofs.YtjchgncgkhofhaaGreat.AL
open Go

/-! ### Equality -/
theorem fksEq_cons (k : FK) (ks : List FK) (x : AV) (xs : List AV) (y : AV) (ys : List AV) :
    fksEq (k :: ks) (x :: xs) (y :: ys) = match fkEq k x y with
      | some b => match fksEq ks xs ys with | some c => some (b && c) | none => none
      | none => none := by
  cases ks <;> cases xs <;> cases ys <;> simp [fksEq] <;> cases fkEq k x y <;> first | rfl | simp

theorem fksEq_len : ∀ (ks : List FK) (xs ys : List AV) (b : Bool), fksEq ks xs ys = some b → xs.length = ks.length ∧ ys.length = ks.length
  | [], [], [], _, _ => ⟨rfl, rfl⟩
  | [], _ :: _, _, _, h => by simp [fksEq] at h
  | [], [], _ :: _, _, h => by simp [fksEq] at h
  | k :: ks, [], _, _, h => by simp [fksEq] at h
  | k :: ks, _ :: _, [], _, h => by simp [fksEq] at h
  | k :: ks, x :: xs, y :: ys, b, h => by
    rw [fksEq_cons] at h
    cases h1 : fkEq k x y with
    | none => rw [h1] at h; cases h
    | some b1 =>
      rw [h1] at h
      cases h2 : fksEq ks xs ys with
      | none => rw [h2] at h; cases h
      | some c => have := fksEq_len ks xs ys c h2; simp [this]

theorem fksEq_append : ∀ (r s : List FK) (xs ys : List AV) (b : Bool), fksEq (r ++ s) xs ys = some b →
    ∃ b1 b2, fksEq r (xs.take r.length) (ys.take r.length) = some b1 ∧ fksEq s (xs.drop r.length) (ys.drop r.length) = some b2 ∧ b = (b1 && b2)
  | [], s, xs, ys, b, h => ⟨true, b, by simp [fksEq], by simpa using h, by simp⟩
  | k :: r, s, [], _, b, h => by simp [fksEq] at h
  | k :: r, s, _ :: _, [], b, h => by simp [fksEq] at h
  | k :: r, s, x :: xs, y :: ys, b, h => by
    rw [List.cons_append, fksEq_cons] at h
    cases h1 : fkEq k x y with
    | none => rw [h1] at h; cases h
    | some c =>
      rw [h1] at h
      cases h2 : fksEq (r ++ s) xs ys with
      | none => rw [h2] at h; cases h
      | some d =>
        rw [h2] at h
        obtain ⟨b1, b2, k1, k2, k3⟩ := fksEq_append r s xs ys d h2
        refine ⟨c && b1, b2, ?_, by simpa using k2, ?_⟩
        · simp only [List.length_cons, List.take_succ_cons]; rw [fksEq_cons, h1, k1]
        · simp only [Option.some.injEq] at h; subst h; subst k3; simp [Bool.and_assoc]

theorem fkEq_R {c : Wz} {k : FK} {x y : AV} {v u : Value} {b : Bool} (h : fkEq k x y = some b) (hx : R c x v) (hy : R c y u) :
    (∃ i p q, k = .int i ∧ v = .int i p ∧ u = .int i q ∧ b = decide (p = q)) ∨ (∃ p q, k = .str ∧ v = .string p ∧ u = .string q ∧ b = decide (p = q)) ∨
    (∃ p q, k = .bool ∧ v = .bool p ∧ u = .bool q ∧ b = (p == q)) := by
  unfold fkEq at h
  split at h
  · rename_i k k1 a1 k2 b1
    split at h
    · rename_i hk
      obtain ⟨rfl, rfl⟩ := hk
      simp only [R] at hx hy
      injection h with h
      exact .inl ⟨_, a1, b1, rfl, hx, hy, h.symm⟩
    · cases h
  · simp only [R] at hx hy
    injection h with h
    exact .inr (.inl ⟨_, _, rfl, hx, hy, h.symm⟩)
  · simp only [R] at hx hy
    injection h with h
    exact .inr (.inr ⟨_, _, rfl, hx, hy, h.symm⟩)
  · cases h

theorem run_part_agg {P : Program} {t : TypeId} {i : TypeInfo} {d : TypeDesc} (hi : P.info? t = some i) (hd : P.underlying t = some d) (ha : dAgg d = true) (cs : Array Value) (off : Nat) (w : World) :
    (part t cs off).run P w = .ok (.agg (cs.extract off (off + i.size))) w := by
  have : (Go.isAgg t).run P w = .ok true w := by
    unfold Go.isAgg
    rw [Sem.run_bind, run_underlying hd, Result.andThen_ok]
    cases d <;> simp [dAgg] at ha ⊢
  unfold part
  rw [Sem.run_bind, this, Result.andThen_ok]
  simp [run_sizeOf hi]
theorem run_part_one {P : Program} {t : TypeId} {d : TypeDesc} (hd : P.underlying t = some d) (ha : dAgg d = false) (cs : Array Value) (off : Nat) (v : Value) (hv : cs[off]? = some v) (w : World) :
    (part t cs off).run P w = .ok v w := by
  have : (Go.isAgg t).run P w = .ok false w := by
    unfold Go.isAgg
    rw [Sem.run_bind, run_underlying hd, Result.andThen_ok]
    cases d <;> simp [dAgg] at ha ⊢
  unfold part
  rw [Sem.run_bind, this, Result.andThen_ok]
  simp [hv]

/-- Shape of a value of a comparable type: an aggregate where the type is one. -/
def shaped (P : Program) (t : TypeId) (v : Value) : Prop :=
  match P.underlying t with
  | some (.struct _) => ∃ cs, v = .agg cs
  | _ => v.cells = #[v]

theorem eq_fields {P : Program} {rc : TypeId → Option (List FK)} {d : Nat}
    (ih : ∀ (t : TypeId) (ks : List FK), rc t = some ks → ∀ (v u : Value) (xs ys : List AV) (b : Bool) (c : Wz) (w : World), shaped P t v → shaped P t u → RL c xs v.cells.toList → RL c ys u.cells.toList →
      fksEq ks xs ys = some b → (Op.equalIn d t v u).run P w = .ok b w)
    (hsh : ∀ (t : TypeId) (ks : List FK), rc t = some ks → ∃ D, P.underlying t = some D ∧ ((∃ fs, D = .struct fs) ∨ (dAgg D = false ∧ ks.length = 1))) :
    ∀ (fs : List Field) (off : Nat) (ks : List FK), eqcFields P rc off fs = some ks → ∀ (vs us : Array Value) (xs ys : List AV) (b : Bool) (c : Wz) (w : World), RL c xs vs.toList → RL c ys us.toList →
      fksEq ks (xs.drop off) (ys.drop off) = some b → (Op.eqFields d vs us fs).run P w = .ok b w
  | [], off, ks, h, vs, us, xs, ys, b, c, w, _, _, he => by
    simp only [eqcFields, Option.some.injEq] at h; subst h
    have : b = true := by
      unfold fksEq at he
      split at he <;> simp_all
    subst this
    simp [Op.eqFields]
  | f :: fs, off, ks, h, vs, us, xs, ys, b, c, w, hx, hy, he => by
    unfold eqcFields at h
    split at h
    · cases h
    rename_i hnm
    simp only [Bool.or_eq_true, beq_iff_eq, bne_iff_ne, not_or, ne_eq] at hnm
    have hnm := And.intro hnm.1 (Classical.not_not.1 hnm.2)
    split at h
    case h_2 => cases h
    rename_i r hr
    split at h
    case isFalse => cases h
    rename_i hsz
    split at h
    case h_2 => cases h
    rename_i s hs
    injection h with h; subst h
    obtain ⟨b1, b2, k1, k2, rfl⟩ := fksEq_append _ _ _ _ _ he
    have hsz' : ∃ i, P.info? f.type = some i ∧ i.size = r.length := by
      cases hi : P.info? f.type with
      | none => rw [hi] at hsz; simp at hsz
      | some i => rw [hi] at hsz; simp at hsz; exact ⟨i, rfl, hsz⟩
    obtain ⟨i, hi, his⟩ := hsz'
    have hl1 := fksEq_len _ _ _ _ k1
    have hvl := RL_length _ _ hx
    have hul := RL_length _ _ hy
    simp only [List.length_take, List.length_drop] at hl1
    rw [← hnm.2] at k1 k2 hl1
    -- both parts
    have hpart : ∃ v u, (part f.type vs f.offset).run P w = .ok v w ∧ shaped P f.type v ∧ RL c ((xs.drop f.offset).take r.length) v.cells.toList ∧
        (part f.type us f.offset).run P w = .ok u w ∧ shaped P f.type u ∧ RL c ((ys.drop f.offset).take r.length) u.cells.toList := by
      obtain ⟨D, hD, hcase⟩ := hsh _ _ hr
      rcases hcase with ⟨gs, rfl⟩ | ⟨ha, h1⟩
      · have q1 := RL_take r.length _ _ (RL_drop f.offset _ _ hx)
        have q2 := RL_take r.length _ _ (RL_drop f.offset _ _ hy)
        refine ⟨_, _, run_part_agg hi hD rfl vs f.offset w, by simp [shaped, hD], ?_, run_part_agg hi hD rfl us f.offset w, by simp [shaped, hD], ?_⟩ <;>
        simp only [Value.cells, Array.toList_extract, List.extract_eq_take_drop] <;> rw [his, Nat.add_sub_cancel_left] <;> assumption
      · obtain ⟨k, rfl⟩ : ∃ k, r = [k] := by
          cases r with
          | nil => simp at h1
          | cons k r => cases r with
            | nil => exact ⟨k, rfl⟩
            | cons _ _ => simp at h1
        have hlt1 : f.offset < xs.length := by simp at hl1; omega
        have hlt2 : f.offset < ys.length := by simp at hl1; omega
        have e1 : (xs.drop f.offset).take 1 = [xs[f.offset]] := by rw [List.drop_eq_getElem_cons hlt1]; rfl
        have e2 : (ys.drop f.offset).take 1 = [ys[f.offset]] := by rw [List.drop_eq_getElem_cons hlt2]; rfl
        simp only [List.length_cons, List.length_nil, Nat.zero_add] at k1 ⊢
        rw [e1, e2] at k1 ⊢
        obtain ⟨v, hv, hRv⟩ := RL_get _ _ hx f.offset xs[f.offset] (List.getElem?_eq_getElem hlt1)
        obtain ⟨u, hu, hRu⟩ := RL_get _ _ hy f.offset ys[f.offset] (List.getElem?_eq_getElem hlt2)
        have hv' : vs[f.offset]? = some v := by simpa using hv
        have hu' : us[f.offset]? = some u := by simpa using hu
        have hf := fkEq_R (b := b1) (by simpa [fksEq] using k1) hRv hRu
        have hns : ∀ z : Value, z.cells = #[z] → shaped P f.type z := by
          intro z hz
          unfold shaped
          rw [hD]
          split
          · rename_i gs e; injection e with e; subst e; simp [dAgg] at ha
          · exact hz
        have hc : v.cells = #[v] ∧ u.cells = #[u] := by
          rcases hf with ⟨i, p, q, _, rfl, rfl, _⟩ | ⟨p, q, _, rfl, rfl, _⟩ | ⟨p, q, _, rfl, rfl, _⟩ <;> exact ⟨rfl, rfl⟩
        exact ⟨v, u, run_part_one hD ha vs f.offset v hv' w, hns v hc.1, by rw [hc.1]; exact RL_cons.2 ⟨hRv, RL_nil⟩,
          run_part_one hD ha us f.offset u hu' w, hns u hc.2, by rw [hc.2]; exact RL_cons.2 ⟨hRu, RL_nil⟩⟩
    obtain ⟨v, u, hv1, hv2, hv3, hu1, hu2, hu3⟩ := hpart
    have hq := ih _ _ hr v u _ _ b1 c w hv2 hu2 hv3 hu3 k1
    rw [List.drop_drop, List.drop_drop, hnm.2] at k2
    have hrest := eq_fields ih hsh fs (off + r.length) s hs vs us xs ys b2 c w hx hy k2
    simp only [Op.eqFields, ne_eq, hnm.1, not_false_eq_true, if_true, Sem.run_bind, hv1, Result.andThen_ok, hu1, hq]
    cases b1 with
    | false => simp
    | true => simpa using hrest

theorem eqc_shape {P : Program} : ∀ (n : Nat) (t : TypeId) (ks : List FK), eqcOf P n t = some ks → ∃ D, P.underlying t = some D ∧ ((∃ fs, D = .struct fs) ∨ (dAgg D = false ∧ ks.length = 1))
  | 0, _, _, h => by simp [eqcOf] at h
  | n + 1, t, ks, h => by
    unfold eqcOf at h
    split at h
    · rename_i k hk; injection h with h; subst h; exact ⟨_, hk, .inr ⟨rfl, rfl⟩⟩
    · rename_i hk; injection h with h; subst h; exact ⟨_, hk, .inr ⟨rfl, rfl⟩⟩
    · rename_i hk; injection h with h; subst h; exact ⟨_, hk, .inr ⟨rfl, rfl⟩⟩
    · rename_i fs hk; exact ⟨_, hk, .inl ⟨fs, rfl⟩⟩
    · cases h

theorem one_of {P : Program} {t : TypeId} {D : TypeDesc} {v : Value} (hD : P.underlying t = some D) (ha : dAgg D = false) (h : shaped P t v) : v.cells = #[v] := by
  unfold shaped at h
  rw [hD] at h
  split at h
  · rename_i e; injection e with e; subst e; simp [dAgg] at ha
  · exact h

theorem fksEq_one {k : FK} {xs ys : List AV} {b : Bool} (h : fksEq [k] xs ys = some b) : ∃ x y, xs = [x] ∧ ys = [y] ∧ fkEq k x y = some b := by
  have := fksEq_len _ _ _ _ h
  match xs, ys, this with
  | [x], [y], _ => exact ⟨x, y, rfl, rfl, by simpa [fksEq] using h⟩

def fkTy : TypeDesc → FK → Prop
  | .int i, k => k = .int i
  | .bool, k => k = .bool
  | .string, k => k = .str
  | _, _ => False
theorem beq_bytes (p q : ByteArray) : (p == q) = decide (p = q) := by
  rw [beq_toListBytes, Bool.eq_iff_iff]
  simp only [beq_iff_eq, decide_eq_true_eq]
  rw [ByteArray.toList_eq, ByteArray.toList_eq]
  constructor
  · intro h
    obtain ⟨⟨x⟩⟩ := p
    obtain ⟨⟨y⟩⟩ := q
    simp at h
    subst h; rfl
  · rintro rfl; rfl

theorem fk_eq_run {P : Program} {k : FK} {t : TypeId} {D : TypeDesc} (hD : P.underlying t = some D) (hk : fkTy D k) {d : Nat} {x y : AV} {v u : Value} {b : Bool} {c : Wz} {w : World}
    (hx : R c x v) (hy : R c y u) (he : fkEq k x y = some b) : (Op.equalIn (d + 1) t v u).run P w = .ok b w := by
  rcases fkEq_R he hx hy with ⟨i, p, q, rfl, rfl, rfl, rfl⟩ | ⟨p, q, rfl, rfl, rfl, rfl⟩ | ⟨p, q, rfl, rfl, rfl, rfl⟩ <;> cases D <;> simp only [fkTy, reduceCtorEq] at hk
  · injection hk with hk; subst hk
    rw [run_equalIn_int w d t i i p q hD]; rfl
  · have : (Op.equalIn (d + 1) t (.string p) (.string q)).run P w = .ok (p == q) w := by simp [Op.equalIn, run_underlying hD]
    rw [this, beq_bytes]
  · exact run_equalIn_bool' w d t p q hD

theorem eq_run {P : Program} : ∀ (n d : Nat), n ≤ d → ∀ (t : TypeId) (ks : List FK), eqcOf P n t = some ks → ∀ (v u : Value) (xs ys : List AV) (b : Bool) (c : Wz) (w : World), shaped P t v → shaped P t u → RL c xs v.cells.toList → RL c ys u.cells.toList →
      fksEq ks xs ys = some b → (Op.equalIn d t v u).run P w = .ok b w
  | 0, _, _, _, _, h => by simp [eqcOf] at h
  | n + 1, d, hd, t, ks, h => by
    intro v u xs ys b c w hv hu hx hy he
    obtain ⟨d, rfl⟩ : ∃ e, d = e + 1 := ⟨d - 1, by omega⟩
    have hleaf : ∀ (D : TypeDesc) (k : FK), P.underlying t = some D → dAgg D = false → ks = [k] → fkTy D k → (Op.equalIn (d + 1) t v u).run P w = .ok b w := by
      intro D k hD ha hks hk
      subst hks
      obtain ⟨x, y, rfl, rfl, hxy⟩ := fksEq_one he
      rw [one_of hD ha hv] at hx
      rw [one_of hD ha hu] at hy
      exact fk_eq_run hD hk (RL_cons.1 hx).1 (RL_cons.1 hy).1 hxy
    unfold eqcOf at h
    split at h
    · rename_i k hk; injection h with h; exact hleaf _ _ hk rfl h.symm rfl
    · rename_i hk; injection h with h; exact hleaf _ _ hk rfl h.symm rfl
    · rename_i hk; injection h with h; exact hleaf _ _ hk rfl h.symm rfl
    · rename_i fs hk
      split at h
      · cases h
      rename_i hst
      have hfo : P.fieldsOf t = fs := by simp [Program.fieldsOf, hk]
      unfold shaped at hv hu
      rw [hk] at hv hu
      obtain ⟨vs, rfl⟩ := hv
      obtain ⟨us, rfl⟩ := hu
      rw [run_equalIn_struct w d t vs us (by rw [hfo]; exact hk) (by simpa using hst), hfo]
      exact eq_fields (rc := eqcOf P n) (d := d) (fun t ks hh v u xs ys b c w => eq_run n d (by omega) t ks hh v u xs ys b c w) (eqc_shape n) fs.toList 0 ks h vs us xs ys b c w hx hy (by simpa using he)
    · cases h
end Go.Proofs.YtjchgncgkhofhaaGreat.AL
