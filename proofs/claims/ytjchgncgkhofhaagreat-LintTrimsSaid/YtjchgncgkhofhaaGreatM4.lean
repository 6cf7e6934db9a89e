/- The A-logic: the operations, one by one (literals). -/
import Derived.Test.YtjchgncgkhofhaaGreatM3
import Derived.Laws.Tables
import Derived.Laws.AppendOwn
import Derived.Laws.MakeOwn
set_option linter.unusedVariables false
set_option linter.unusedSimpArgs false
namespace Go.Proofs.YtjchgncgkhofhaaGreat.AL
open Go

/-- Cells laid over others, one by one. -/
theorem fold_lay (off : Nat) : ∀ (l : List Value) (k : Nat) (cells : Array Value) (i : Nat), off + k + l.length ≤ cells.size →
    ((l.zipIdx k).foldl (fun cs (p : Value × Nat) => cs.setIfInBounds (off + p.2) p.1) cells).size = cells.size ∧
    ((l.zipIdx k).foldl (fun cs (p : Value × Nat) => cs.setIfInBounds (off + p.2) p.1) cells)[i]? = if i < off + k then cells[i]? else if i < off + k + l.length then l[i - (off + k)]? else cells[i]?
  | [], k, cells, i, _ => by
    refine ⟨rfl, ?_⟩
    simp
    intro h1 h2; omega
  | x :: l, k, cells, i, h => by
    simp only [List.length_cons] at h
    simp only [List.zipIdx_cons, List.foldl_cons]
    have hs : (cells.setIfInBounds (off + k) x).size = cells.size := by simp
    obtain ⟨h1, h2⟩ := fold_lay off l (k + 1) (cells.setIfInBounds (off + k) x) i (by rw [hs]; omega)
    refine ⟨h1.trans hs, ?_⟩
    rw [h2]
    by_cases c1 : i < off + k
    · rw [if_pos (by omega), if_pos c1, Array.getElem?_setIfInBounds_ne (by omega)]
    · rw [if_neg c1]
      by_cases c2 : i = off + k
      · subst c2
        rw [if_pos (by omega), if_pos (by simp only [List.length_cons]; omega)]
        simp [show off + k < cells.size by omega]
      · rw [if_neg (by omega)]
        by_cases c3 : i < off + (k + 1) + l.length
        · rw [if_pos c3, if_pos (by simp only [List.length_cons]; omega)]
          rw [show i - (off + k) = (i - (off + (k + 1))) + 1 from by omega, List.getElem?_cons_succ]
        · rw [if_neg c3, if_neg (by simp only [List.length_cons]; omega), Array.getElem?_setIfInBounds_ne (by omega)]

theorem RL_lay {c : Wz} {cs vs : List AV} {off : Nat} {cells us : Array Value} (h : RL c cs cells.toList) (hv : RL c vs us.toList) (hle : off + vs.length ≤ cs.length) :
    RL c (lay cs off vs) (us.zipIdx.foldl (fun cs (p : Value × Nat) => cs.setIfInBounds (off + p.2) p.1) cells).toList := by
  have hl1 := RL_length _ _ h
  have hl2 := RL_length _ _ hv
  simp only [Array.length_toList] at hl1 hl2
  have hfold : us.zipIdx.foldl (fun cs (p : Value × Nat) => cs.setIfInBounds (off + p.2) p.1) cells = (us.toList.zipIdx 0).foldl (fun cs (p : Value × Nat) => cs.setIfInBounds (off + p.2) p.1) cells := by
    rw [← Array.foldl_toList]; simp
  rw [hfold]
  have key := fun i => fold_lay off us.toList 0 cells i (by simp; omega)
  refine RL_ext _ _ ?_ ?_
  · rw [Array.length_toList, (key 0).1, lay_length _ _ _ hle]; exact hl1
  · intro i x v hx hvv
    rw [lay_get _ _ _ hle] at hx
    have hvv' : ((us.toList.zipIdx 0).foldl (fun cs (p : Value × Nat) => cs.setIfInBounds (off + p.2) p.1) cells)[i]? = some v := by simpa using hvv
    rw [(key i).2] at hvv'
    simp only [Nat.add_zero, Array.length_toList] at hvv'
    rw [hl2] at hvv'
    split at hx
    · rename_i c1
      rw [if_pos c1] at hvv'
      obtain ⟨u, hu, hR⟩ := RL_get _ _ h i x hx
      have : cells[i]? = some u := by simpa using hu
      rw [hvv'] at this; injection this with this; subst this; exact hR
    · rename_i c1
      rw [if_neg c1] at hvv'
      split at hx
      · rename_i c2
        rw [if_pos c2] at hvv'
        obtain ⟨u, hu, hR⟩ := RL_get _ _ hv _ x hx
        rw [hvv'] at hu; injection hu with hu; subst hu; exact hR
      · rename_i c2
        rw [if_neg c2] at hvv'
        obtain ⟨u, hu, hR⟩ := RL_get _ _ h i x hx
        have : cells[i]? = some u := by simpa using hu
        rw [hvv'] at this; injection this with this; subst this; exact hR

/-- Parts, as told and as they are. -/
def RP (c : Wz) (bx : Nat → AObj) (L : Nat → Nat) : List (Nat × AV) → List (Nat × Value) → Prop
  | [], q => q = []
  | p :: ps, q => ∃ v r, q = (p.1, v) :: r ∧ RS c bx L p.2 v ∧ RP c bx L ps r

theorem fill_build {E : Env} {c : Wz} {bx : Nat → AObj} {L : Nat → Nat} {fs : List (Nat × Nat)} {place : Nat → Option (Nat × Nat)} (hp : ∀ i, place i = (fs[i]?).map fun p => (p.1, (E.T p.2).size)) :
    ∀ (ps : List (Nat × AV)) (qs : List (Nat × Value)) (cs cs' : List AV) (cells : Array Value), RP c bx L ps qs → RL c cs cells.toList → buildC E fs cs ps = some cs' →
      ∃ cells', Instr.fill place cells qs = some cells' ∧ RL c cs' cells'.toList
  | [], qs, cs, cs', cells, hr, h, hb => by
    simp only [RP] at hr; subst hr
    simp only [buildC, Option.some.injEq] at hb; subst hb
    exact ⟨cells, rfl, h⟩
  | (i, x) :: ps, qs, cs, cs', cells, hr, h, hb => by
    obtain ⟨v, r, rfl, h1, h2⟩ := hr
    simp only [buildC] at hb
    split at hb
    case h_2 => cases hb
    rename_i off t hf
    split at hb
    case isFalse => cases hb
    rename_i hh
    obtain ⟨k1, k2, k3⟩ := hh
    have hcr := RL_dm _ _ (cells_RS h1 k3)
    have hlen := RL_length _ _ hcr
    have hl1 := RL_length _ _ h
    simp only [Array.length_toList, List.length_map] at hlen hl1
    have hlay := RL_lay (off := off) h hcr (by rw [List.length_map]; exact k2)
    obtain ⟨cells', e1, e2⟩ := fill_build hp ps r _ cs' _ h2 hlay hb
    refine ⟨cells', ?_, e2⟩
    have hpl : place i = some (off, (E.T t).size) := by rw [hp, hf]; rfl
    simp only [Instr.fill, hpl]
    rw [if_neg]
    · exact e1
    · simp only [ne_eq, Bool.or_eq_true, decide_eq_true_eq, not_or]
      omega

/-- Elements, each told once, in order. -/
theorem fill_elems {c : Wz} {bx : Nat → AObj} {L : Nat → Nat} {es : Nat} :
    ∀ (ps : List (Nat × AV)) (k : Nat) (qs : List (Nat × Value)) (pre cs : List AV) (cells : Array Value), RP c bx L ps qs → RL c pre (cells.toList.take (k * es)) → pre.length = k * es → cells.size = (k + ps.length) * es → elemsC es k ps = some cs →
      ∃ cells', Instr.fill (fun i => some (i * es, es)) cells qs = some cells' ∧ RL c (pre ++ cs) cells'.toList ∧ cells'.size = cells.size ∧ cs.length = ps.length * es
  | [], k, qs, pre, cs, cells, hr, h, hl, hs, hb => by
    simp only [RP] at hr; subst hr
    simp only [elemsC, Option.some.injEq] at hb; subst hb
    refine ⟨cells, rfl, ?_, rfl, by simp⟩
    rw [List.append_nil]
    rwa [List.take_of_length_le (by simp at hs ⊢; omega)] at h
  | (i, x) :: ps, k, qs, pre, cs, cells, hr, h, hl, hs, hb => by
    obtain ⟨v, r, rfl, h1, h2⟩ := hr
    simp only [elemsC] at hb
    split at hb
    case isFalse => cases hb
    rename_i hh
    obtain ⟨rfl, k2, k3⟩ := hh
    split at hb
    case h_2 => cases hb
    rename_i l hl'
    injection hb with hb; subst hb
    have hcr := RL_dm _ _ (cells_RS h1 k3)
    have hlen := RL_length _ _ hcr
    simp only [Array.length_toList, List.length_map] at hlen
    have hsz : cells.size = i * es + es + ps.length * es := by
      rw [hs]; simp only [List.length_cons]; rw [Nat.add_mul, Nat.add_mul]; omega
    have key := fun j => fold_lay (i * es) v.cells.toList 0 cells j (by simp; omega)
    have hfold : v.cells.zipIdx.foldl (fun cs (p : Value × Nat) => cs.setIfInBounds (i * es + p.2) p.1) cells = (v.cells.toList.zipIdx 0).foldl (fun cs (p : Value × Nat) => cs.setIfInBounds (i * es + p.2) p.1) cells := by
      rw [← Array.foldl_toList]; simp
    have hnew : RL c (pre ++ x.cells.map dm) ((v.cells.zipIdx.foldl (fun cs (p : Value × Nat) => cs.setIfInBounds (i * es + p.2) p.1) cells).toList.take ((i + 1) * es)) := by
      rw [hfold]
      have : ((v.cells.toList.zipIdx 0).foldl (fun cs (p : Value × Nat) => cs.setIfInBounds (i * es + p.2) p.1) cells).toList.take ((i + 1) * es) = cells.toList.take (i * es) ++ v.cells.toList := by
        apply List.ext_getElem?
        intro j
        rw [List.getElem?_take, Array.getElem?_toList, (key j).2]
        simp only [Nat.add_zero, Array.length_toList]
        have hmul : (i + 1) * es = i * es + es := Nat.succ_mul _ _
        by_cases c1 : j < i * es
        · rw [if_pos (by omega), if_pos c1, List.getElem?_append_left (by simp; omega), List.getElem?_take, if_pos c1, Array.getElem?_toList]
        · by_cases c2 : j < i * es + es
          · rw [if_pos (by omega), if_neg c1, if_pos (by omega), List.getElem?_append_right (by simp; omega)]
            congr 1
            simp; omega
          · rw [if_neg (by omega), List.getElem?_eq_none (by simp; omega)]
      rw [this]
      exact RL_append _ _ _ _ h hcr
    have hsz2 : (v.cells.zipIdx.foldl (fun cs (p : Value × Nat) => cs.setIfInBounds (i * es + p.2) p.1) cells).size = cells.size := by rw [hfold]; exact (key 0).1
    obtain ⟨cells', e1, e2, e3, e4⟩ := fill_elems ps (i + 1) r _ l _ h2 hnew (by rw [List.length_append, List.length_map, hl, k2, Nat.succ_mul]) (by rw [hsz2, hsz, Nat.add_mul, Nat.add_mul]; omega) hl'
    refine ⟨cells', ?_, by rw [← List.append_assoc]; exact e2, e3.trans hsz2, ?_⟩
    · simp only [Instr.fill]
      rw [if_neg]
      · exact e1
      · simp only [ne_eq, Bool.or_eq_true, decide_eq_true_eq, not_or]
        omega
    · rw [List.length_append, List.length_map, k2, e4, List.length_cons, Nat.succ_mul]; omega

section
variable {P : Program} {E : Env} {all : List Oper} {o : Oper} {m : Mem} {f : Nat → AV} {a : Act} {w : World} {L : Nat → Nat} {G : Gh} {ow : Nat → Option Pos} {K : ASt → Prop} {Q : Exit → Act → World → Prop}

theorem RP_of (h : HRel m f (vals a) w L G ow) : ∀ ps : List (Nat × Operand), RP (G.wz w) m.bx L ((ps.map (·.1)).zip ((ps.map (·.2)).map fun x => dm (evo f x))) (ps.map fun p => (p.1, a.eval p.2))
  | [] => by simp [RP]
  | p :: ps => by
    simp only [List.map_cons, List.zip_cons_cons, RP]
    exact ⟨_, _, rfl, RS_dm (ev_rs h p.2), RP_of h ps⟩

theorem places_run (hE : EOk P E) {t : Nat} : ∀ (Fs : List Field), ((Fs.map fun f => (f.offset, f.type)).all fun p => (E.T p.2).size != 0) = true →
    Fs.mapM (fun f => (P.info? f.type).map fun i => (f.offset, i.size)) = some (Fs.map fun f => (f.offset, (E.T f.type).size))
  | [], _ => rfl
  | F :: Fs, h => by
    simp only [List.map_cons, List.all_cons, Bool.and_eq_true, bne_iff_ne, ne_eq] at h
    obtain ⟨inf, dd, hinf, _, hss, _, _⟩ := ty_info hE h.1
    have := places_run hE (t := t) Fs h.2
    simp [List.mapM_cons, hinf, this, hss]

theorem s_build (hE : EOk P E) {t : Nat} {parts : Array (Nat × Operand)} (ho : o.op = .build t parts) (hA : AO E all o f m K) (h : HRel m f (vals a) w L G ow) (hd : ∀ x, o.dst = some x → x < a.tmps.size) : o.wp P a w (Fin a w G K) Q := by
  have htk : tki E all o = none := by simp [tki, ho]
  unfold AO at hA
  rw [htk, ho] at hA
  simp only [Op.operands, opvs_none, isMk, clr, aopC] at hA
  split at hA
  case h_2 => exact hA.elim
  rename_i fs z hty hz
  split at hA
  · exact hA.elim
  rename_i hall
  split at hA
  case h_2 => exact hA.elim
  rename_i cs hcs
  rw [frcL_eq] at hA
  obtain ⟨Fs, hF, rfl⟩ := ty_struct hE hty
  obtain ⟨inf, v, hinf, hv, rfl, _⟩ := ty_zero hE hz
  have hpl := places_run (P := P) hE (t := t) Fs.toList (by simpa using hall)
  obtain ⟨cells', h1, h2⟩ := fill_build (E := E) (c := G.wz w) (bx := m.bx) (L := L) (fs := Fs.toList.map fun f => (f.offset, f.type)) (place := fun i => (Fs.toList.map fun f => (f.offset, (E.T f.type).size))[i]?)
    (fun i => by rw [List.getElem?_map, List.getElem?_map]; cases Fs.toList[i]? <;> rfl) _ _ _ _ v.cells (RP_of h parts.toList) (RL_sc _) hcs
  have hbuilt : P.built t (parts.map fun (i, x) => (i, a.eval x)).toList = some cells' := by
    unfold Program.built
    simp only [hinf, hF, hv, hpl]
    simpa using h1
  have hrun := run_build (P := P) w t (parts.map fun (i, x) => (i, a.eval x)) cells' hbuilt
  refine wp_value (v := .agg cells') (w' := w) (by simp only [execOp, ho, Sem.run_bind, hrun, Result.andThen_ok]; rfl) (fin_plain h hd (.refl _) (RS_of_R ?_) (by trivial) hA)
  simp only [R]
  exact ⟨cells'.toList, by simp, h2⟩

theorem run_newRow1 {e : TypeId} {cells : Array Value} : (newRow e cells).run P w = .ok ⟨w.heap.size, 0, none⟩ (w.alloc (.cells cells e (0, 0))) := by
  simp [newRow]

theorem s_buildSlice (hE : EOk P E) {t len : Nat} {parts : Array (Nat × Operand)} (ho : o.op = .buildSlice t len parts) (hA : AO E all o f m K) (h : HRel m f (vals a) w L G ow) (hd : ∀ x, o.dst = some x → x < a.tmps.size) : o.wp P a w (Fin a w G K) Q := by
  have htk : tki E all o = none := by simp [tki, ho]
  unfold AO at hA
  rw [htk, ho] at hA
  simp only [Op.operands, opvs_none, isMk, clr, aopC] at hA
  split at hA
  case h_2 => exact hA.elim
  rename_i e hty
  split at hA
  case h_2 => exact hA.elim
  rename_i cs hcs
  split at hA
  case isFalse => exact hA.elim
  rename_i hh
  obtain ⟨k1, k2, k3, k4⟩ := hh
  obtain ⟨z, hz⟩ := Option.isSome_iff_exists.1 k4
  obtain ⟨inf, dd, hinf, _, hss, _, _⟩ := ty_info hE k3
  obtain ⟨inf', v, hinf', hv, rfl, _⟩ := ty_zero hE hz
  rw [hinf] at hinf'; injection hinf' with hinf'; subst hinf'
  have ht := ty_slice hE hty
  have hplen : ((parts.toList.map (·.1)).zip ((parts.toList.map (·.2)).map fun x => dm (evo f x))).length = parts.size := by simp
  obtain ⟨cells', h1, h2, h3, h4⟩ := fill_elems (c := G.wz w) (bx := m.bx) (L := L) (es := inf.size) _ 0 _ [] cs ((Array.range (len * inf.size)).map (v.cells[· % v.cells.size]!)) (RP_of h parts.toList) (by simp [RL]) (by simp) (by rw [hplen, k1]; simp) (by rw [← hss]; exact hcs)
  have hsz : cells'.size = len * inf.size := by rw [h3]; simp
  have hmul : len ≤ len * inf.size := Nat.le_mul_of_pos_right _ (by omega)
  have hrun : (Instr.buildSlice t len (parts.map fun (i, x) => (i, a.eval x))).run P w = .ok (.slice (some ⟨w.heap.size, 0, none⟩) len len) (w.alloc (.cells cells' e (0, 0))) := by
    have hnot : ¬ (len * inf.size > 2 ^ 24) := by rw [← hss]; omega
    unfold Instr.buildSlice
    simp only [Sem.run_bind, run_underlying ht, Result.andThen_ok, run_sizeOf hinf, if_neg hnot, Sem.run_pure]
    by_cases h0 : len * inf.size = 0
    · have hl0 : len = 0 := by omega
      subst hl0
      have hp0 : parts = #[] := by
        have : parts.size = 0 := k1
        exact Array.size_eq_zero_iff.1 this
      subst hp0
      have hc0 : cells' = #[] := Array.size_eq_zero_iff.1 (by rw [hsz]; omega)
      subst hc0
      simp [Instr.fill, run_newRow1, -World.alloc_eq]
      rw [show Array.range 0 = #[] from rfl, Array.map_empty]
    · simp only [if_neg h0, Sem.run_bind, run_zeroValue hinf hv, Result.andThen_ok, Sem.run_pure]
      have hfill : Instr.fill (fun i => some (i * inf.size, inf.size)) ((Array.range (len * inf.size)).map (v.cells[· % v.cells.size]!)) (parts.map fun (i, x) => (i, a.eval x)).toList = some cells' := by
        simpa using h1
      rw [hfill]
      simp only [Sem.run_bind, run_newRow1, Result.andThen_ok, Sem.run_pure]
  rw [hss] at hA
  have hcl : cs.length = len * inf.size := by rw [h4, hplen, k1]
  refine wp_value (v := .slice (some ⟨w.heap.size, 0, none⟩) len len) (w' := w.alloc (.cells cells' e (0, 0))) (by simp only [execOp, ho, Sem.run_bind, hrun, Result.andThen_ok]; rfl)
    (fin_fresh (e := inf.size) (cs := cs) h hd ?_ hcl (Nat.le_refl _) ?_ (by omega) hA)
  · rw [List.take_of_length_le (by simp; omega)]; simpa using h2
  · show len ≤ 9223372036854775807
    rw [hss] at k2; omega
end
end Go.Proofs.YtjchgncgkhofhaaGreat.AL
/- The A-logic: the operations, one by one (append). -/
set_option linter.unusedVariables false
set_option linter.unusedSimpArgs false
namespace Go.Proofs.YtjchgncgkhofhaaGreat.AL
open Go
section
variable {P : Program} {E : Env} {all : List Oper} {o : Oper} {m : Mem} {f : Nat → AV} {a : Act} {w : World} {L : Nat → Nat} {G : Gh} {ow : Nat → Option Pos} {K : ASt → Prop} {Q : Exit → Act → World → Prop}

theorem Fin.of_grow {w0 : World} (g : Grow w0 w) (hz : ∀ b o, G.Z b o → b < w0.heap.size) (hf : ∀ b, G.F b → b < w0.heap.size) {a' : Act} {w' : World} (h : Fin a w G K a' w') : Fin a w0 G K a' w' := by
  obtain ⟨st, L', G', ow', h1, h2, h3, h4, h5⟩ := h
  exact ⟨st, L', G', ow', h1, h2, (g.ext hz hf).trans h3, h4, h5⟩

theorem zero_size (hE : EOk P E) {e : Nat} (hs : (E.T e).size ≠ 0) (hz : zeroOk (E.T e) ≠ false) : ∃ inf zv, P.info? e = some inf ∧ inf.zero = some zv ∧ (E.T e).size = inf.size ∧ (E.T e).bytes = inf.bytes ∧ zv.cells.size = inf.size := by
  unfold zeroOk at hz
  cases hq : (E.T e).zero with
  | none => rw [hq] at hz; exact absurd rfl hz
  | some l =>
    rw [hq] at hz
    obtain ⟨inf, dd, hinf, _, hss, hby, _⟩ := ty_info hE hs
    obtain ⟨inf', zv, hinf', hzv, rfl, _⟩ := ty_zero hE hq
    rw [hinf] at hinf'; injection hinf' with hinf'; subst hinf'
    refine ⟨inf, zv, hinf, hzv, hss, hby, ?_⟩
    have : Nat.beq zv.cells.toList.length (E.T e).size = true := by simpa using hz
    have := Nat.eq_of_beq_eq_true this
    rw [Array.length_toList] at this; omega

/-- An append within the row, wherever in its block the row begins. -/
theorem run_append_in {t ty e : TypeId} {i : TypeInfo} (ht : P.underlying t = some (.slice e)) (hi : P.info? e = some i) {ad : Addr} (hsp : ad.spot = none) {n1 k : Nat} {b : Addr} {n2 c2 : Nat} {us : List Value} {vs : Array Value} {T : TypeId}
    (hl : us.length = n2 * i.size) (hnew : ∀ (j : Nat) (v : Value), us[j]? = some v → w.cell? (b.add j) = some v) (h1 : ∀ v ∈ us, v.oneCell' = true) (hroom : n1 + n2 ≤ k)
    (hw : w.heap[ad.block]? = some (.cells vs T (0, 0))) (hfit : ad.off + k * i.size ≤ vs.size) :
    ∃ w' vs', (Builtin.append_ #[t, t] ty #[.slice (some ad) n1 k, .slice (some b) n2 c2]).run P w = .ok (.slice (some ad) (n1 + n2) k) w' ∧
      w'.heap[ad.block]? = some (.cells vs' T (0, 0)) ∧ vs'.size = vs.size ∧ (∀ j, j < ad.off + n1 * i.size → vs'[j]? = vs[j]?) ∧ (∀ (j : Nat) (v : Value), us[j]? = some v → vs'[ad.off + n1 * i.size + j]? = some v) ∧
      (∀ c, c ≠ ad.block → w'.heap[c]? = w.heap[c]?) ∧ w'.heap.size = w.heap.size ∧ w'.os = w.os ∧ w'.output = w.output ∧ w'.tape = w.tape := by
  have had : ad = ⟨ad.block, ad.off, none⟩ := by cases ad; simp at hsp; simp [hsp]
  have hmul : n1 * i.size + n2 * i.size ≤ k * i.size := by rw [← Nat.add_mul]; exact Nat.mul_le_mul_right _ hroom
  obtain ⟨w', vs', k1, k2, k3, k4, k5, k6, k7, k8, k9, k10, k11⟩ := run_storeCells (P := P) us w (ad.off + n1 * i.size) 0 vs hw (by omega) h1
  refine ⟨w', vs', ?_, k2, k3, fun j hj => k4 j (by omega), fun j v hj => by have := k6 j v hj; rwa [Nat.add_zero] at this, k7, k8, k9, k10, k11⟩
  have hfirst := run_firstCells_some (P := P) (w := w) i.size n2 b n2 c2 us hl hnew
  have hadd : ad.add (n1 * i.size) = ⟨ad.block, ad.off + n1 * i.size, none⟩ := by rw [had]; exact Addr.add_lit _ _ _
  simp [Builtin.append_, run_underlying ht, run_sizeOf hi, Builtin.lenOf, hroom, hfirst, hadd, k1]

/-- The same, where the cells' writing is told. -/
theorem run_append_at {t ty e : TypeId} {i : TypeInfo} (ht : P.underlying t = some (.slice e)) (hi : P.info? e = some i) {b0 o0 n1 k : Nat} {b : Addr} {n2 c2 : Nat} {us : List Value} {w' : World}
    (hl : us.length = n2 * i.size) (hnew : ∀ (j : Nat) (v : Value), us[j]? = some v → w.cell? (b.add j) = some v) (hroom : n1 + n2 ≤ k)
    (hst : (storeCells ⟨b0, o0 + n1 * i.size, none⟩ us).run P w = .ok () w') :
    (Builtin.append_ #[t, t] ty #[.slice (some ⟨b0, o0, none⟩) n1 k, .slice (some b) n2 c2]).run P w = .ok (.slice (some ⟨b0, o0, none⟩) (n1 + n2) k) w' := by
  have hfirst := run_firstCells_some (P := P) (w := w) i.size n2 b n2 c2 us hl hnew
  have hadd : (⟨b0, o0, none⟩ : Addr).add (n1 * i.size) = ⟨b0, o0 + n1 * i.size, none⟩ := Addr.add_lit _ _ _
  simp [Builtin.append_, run_underlying ht, run_sizeOf hi, Builtin.lenOf, hroom, hfirst, hadd, hst]

theorem exec_append {t : TypeId} {x y : Operand} (ho : o.op = .call { callee := .builtin .append, args := #[x, y], argTypes := #[t, t] }) {v : Value} {w' : World}
    (hr : (Builtin.append_ #[t, t] o.type #[a.eval x, a.eval y]).run P w = .ok v w') : (execOp a.eval o).run P w = .ok (.value v) w' := by
  simp [execOp, ho, resolve, invoke, builtin, hr]

theorem clr_plain {x : Operand} {r : List Operand} (h : notFl (evo f x)) : clr f (some 0) (x :: r) = f := by
  unfold AL.clr
  simp only [List.getElem?_cons_zero]
  cases x with
  | tmp t =>
    dsimp only
    split
    · rename_i e l c he
      rw [show evo f (.tmp t) = f t from rfl, he] at h
      exact h.elim
    · rfl
  | _ => rfl

/-- A slice that is nil, told with the right to append. -/
theorem fin_nil {f' : Nat → AV} (h : HRel m f' (vals a) w L G ow) (hd : ∀ x, o.dst = some x → x < a.tmps.size) {e : Nat} {bx : Nat → AObj} (hK : K ⟨finF false bx o.dst (.vec true e 0 []) f', m⟩) : Fin a w G K (a.put o.dst (.slice none 0 0)) w := by
  refine ⟨_, L, G, ow, hK, ?_, .refl _ _, defers_put _ _ _, size_put _ _ _⟩
  cases hdst : o.dst with
  | none => exact h
  | some d =>
    rw [vals_put (hd d hdst)]
    exact h.setNil d (RS_of_R (by simp only [R]; exact .inr ⟨by simp, by simp, none, rfl, fun _ => rfl⟩)) (by simp)

/-- Something is appended to nil. -/
theorem app_nil (hE : EOk P E) {t e : TypeId} {x1 x2 : Operand} (ho : o.op = .call { callee := .builtin .append, args := #[x1, x2], argTypes := #[t, t] }) {f' : Nat → AV} (h : HRel m f' (vals a) w L G ow) (hd : ∀ x, o.dst = some x → x < a.tmps.size)
    (hty : (E.T t).ty = .slice e) (hs0 : (E.T e).size ≠ 0) (hz0 : zeroOk (E.T e) ≠ false) (he1 : a.eval x1 = .slice none 0 0) {b : Bool} {n : Nat} {cs : List AV} (hr2 : R (G.wz w) (.vec b (E.T e).size n cs) (a.eval x2))
    (hn63 : n ≤ 9223372036854775807) (hnb : n * (E.T e).bytes ≤ 140737488355328) {bx : Nat → AObj} (hK : K ⟨finF false bx o.dst (.vec true (E.T e).size n cs) f', m⟩) : o.wp P a w (Fin a w G K) Q := by
  have ht := ty_slice hE hty
  obtain ⟨inf, zv, hinf, hzv, hss, hby, hzs⟩ := zero_size hE hs0 hz0
  simp only [R] at hr2
  rcases hr2 with ⟨ad, cap, he2, hsp, hlc, hcm, hcl, hrz⟩ | ⟨rfl, rfl, A, he2, _⟩
  · have had : ad = ⟨ad.block, ad.off, none⟩ := by cases ad; simp at hsp; simp [hsp]
    by_cases hn : n = 0
    · subst hn
      have hc0 : cs = [] := by apply List.eq_nil_of_length_eq_zero; rw [hcl]; simp
      subst hc0
      exact wp_value (v := .slice none 0 0) (w' := w) (exec_append ho (by
        rw [he1, he2]
        have := run_firstCells_some (P := P) (w := w) inf.size 0 ad 0 cap [] (by simp) (by simp)
        simp [Builtin.append_, run_underlying ht, run_sizeOf hinf, Builtin.lenOf, this]))
        (fin_nil h hd hK)
    · obtain ⟨us, hus, hcell⟩ := RZ_vals _ _ _ hrz
      have hlen := RL_length _ _ hus
      have hnew : ∀ (j : Nat) (v : Value), us[j]? = some v → w.cell? (ad.add j) = some v := by
        intro j v hj; rw [had, Addr.add_lit]; exact hcell j v hj
      have hrun := run_append_nil (P := P) (w := w) t o.type e inf zv ht hinf hzv ad n cap us (by rw [hlen, hcl, hss]) hnew (by omega) (by omega) (by rw [← hby]; omega)
      have hge : n ≤ grownCap w n 0 e := grownCap_ge _ _ _ _
      have hg := h.grow (Grow.drew w)
      have hmulge : n * inf.size ≤ grownCap w n 0 e * inf.size := Nat.mul_le_mul_right _ hge
      refine wp_value (exec_append ho (by rw [he1, he2]; exact hrun)) (Fin.of_grow (Grow.drew w) h.zb (fun b k => (h.fb b k).1) (fin_fresh (e := inf.size) (n := n) (cap := grownCap w n 0 e) (cs := cs) (w := w.drew) hg hd ?_ (by rw [hcl, hss]) hge (grownCap_le_maxLen _ _ _ _ hn63) ?_ (by rw [hss] at hK; exact hK)))
      · have hcs : cs.length = us.length := hlen.symm
        have : (us.toArray ++ Builtin.zeroCells zv.cells (grownCap w n 0 e - n)).toList.take cs.length = us := by
          rw [Array.toList_append, hcs]; simp
        rw [this]
        exact RL_mono ((Grow.drew w).le h.zb) _ _ hus
      · rw [Array.size_append, size_zeroCells, hzs]
        simp only [List.size_toArray]
        rw [hlen, hcl, hss, Nat.sub_mul]
        omega
  · exact wp_value (v := .slice none 0 0) (w' := w) (exec_append ho (by rw [he1, he2]; cases A <;> simp [Builtin.append_, run_underlying ht, run_sizeOf hinf, Builtin.lenOf, Builtin.firstCells, loadCells, loadCellsFrom])) (fin_nil h hd hK)

theorem s_append (hE : EOk P E) {c : Call} (ho : o.op = .call c) (hc : c.callee = .builtin .append) (hA : AO E all o f m K) (h : HRel m f (vals a) w L G ow) (hd : ∀ x, o.dst = some x → x < a.tmps.size) : o.wp P a w (Fin a w G K) Q := by
  obtain ⟨callee, args, argTypes⟩ := c
  simp only at hc; subst hc
  have htk : tki E all o = some 0 := by simp [tki, ho]
  unfold AO at hA
  rw [htk, ho] at hA
  simp only [Op.operands, Call.operands, Array.empty_append, isMk] at hA
  cases hdst : o.dst with
  | none => rw [hdst] at hA; simp only [aopC] at hA
  | some d =>
    rw [hdst] at hA
    simp only [aopC] at hA
    split at hA
    case h_2 => exact hA.elim
    rename_i d' t t' hd' hats
    injection hd' with hd'; subst hd'
    split at hA
    · exact hA.elim
    rename_i htt
    have htt : t = t' := Classical.byContradiction htt
    subst htt
    have hats : argTypes = #[t, t] := by
      have : argTypes = argTypes.toList.toArray := by simp
      rw [this, hats]
    subst hats
    split at hA
    case h_2 => exact hA.elim
    rename_i e hty
    have ht := ty_slice hE hty
    have two : ∀ {y z : AV}, opvs f (some 0) 0 args.toList = [y, z] → ∃ x1 x2, args = #[x1, x2] ∧ evo f x1 = y ∧ dm (evo f x2) = z := by
      intro y z hy
      match hl : args.toList, hy with
      | [x1, x2], hy =>
        simp [opvs] at hy
        refine ⟨x1, x2, ?_, hy.1, hy.2⟩
        have : args = args.toList.toArray := by simp
        rw [this, hl]
    have hdl : d < a.tmps.size := hd d hdst
    generalize hxs : opvs f (some 0) 0 args.toList = xs at hA
    split at hA
    · -- nil and nil
      obtain ⟨x1, x2, rfl, hx1, hx2⟩ := two hxs
      split at hA
      · exact hA.elim
      rename_i hcond
      obtain ⟨inf, dd, hinf, _, hss, _, _⟩ := ty_info hE (fun e => hcond (.inl e))
      have hr1 := ev_rs h x1
      have hr2 := RS_dm (ev_rs h x2)
      rw [hx1] at hr1; rw [hx2] at hr2
      have he1 := RS_sc hr1
      have he2 := RS_sc hr2
      simp only at hA
      rw [clr_plain (by rw [hx1]; trivial), ← hdst] at hA
      exact wp_value (v := .slice none 0 0) (w' := w) (exec_append ho (by rw [he1, he2]; simp [Builtin.append_, run_underlying ht, run_sizeOf hinf, Builtin.lenOf, Builtin.firstCells]))
        (fin_plain (x := .sc (.slice none 0 0)) h hd (.refl _) (by simp [RS, R]) trivial hA)
    · -- nil and a row
      rename_i b es' n cs
      obtain ⟨x1, x2, rfl, hx1, hx2⟩ := two hxs
      split at hA
      · exact hA.elim
      rename_i hcond
      have hes : es' = (E.T e).size := Classical.byContradiction fun q => hcond (.inl q)
      have hs0 : (E.T e).size ≠ 0 := fun q => hcond (.inr (.inl q))
      have hz0 : zeroOk (E.T e) ≠ false := fun q => hcond (.inr (.inr q))
      obtain ⟨⟨hn63, hnb⟩, hA1⟩ := hA
      subst hes
      have hr1 := ev_rs h x1
      have hr2 := RS_dm (ev_rs h x2)
      rw [hx1] at hr1; rw [hx2] at hr2
      rw [clr_plain (by rw [hx1]; trivial), ← hdst] at hA1
      exact app_nil hE ho h hd hty hs0 hz0 (RS_sc hr1) (R_of_RS hr2 rfl) hn63 hnb hA1
    · -- a row and nil
      rename_i es1 n1 c1
      obtain ⟨x1, x2, rfl, hx1, hx2⟩ := two hxs
      split at hA
      · exact hA.elim
      rename_i hcond
      obtain ⟨inf, dd, hinf, _, hss, _, _⟩ := ty_info hE (fun e => hcond (.inl e))
      have hr1 := ev_rs h x1
      have hr2 := RS_dm (ev_rs h x2)
      rw [hx1] at hr1; rw [hx2] at hr2
      have he2 := RS_sc hr2
      simp only [RS, R] at hr1
      have hrun : (Builtin.append_ #[t, t] o.type #[a.eval x1, a.eval x2]).run P w = .ok (a.eval x1) w := by
        rcases hr1 with ⟨ad, cap, he1, hsp, hlc, hcm, hcl, hrz⟩ | ⟨_, _, A, he1, hAo⟩
        rotate_left
        · rw [hAo trivial] at he1
          rw [he1, he2]; simp [Builtin.append_, run_underlying ht, run_sizeOf hinf, Builtin.lenOf, Builtin.firstCells]
        rw [he1, he2]
        simp [Builtin.append_, run_underlying ht, run_sizeOf hinf, Builtin.lenOf, Builtin.firstCells, hlc, storeCells]
      refine wp_value (exec_append ho hrun) (fin_move (tk := some 0) (x := x1) (bx := m.bx) h hd ?_)
      rw [if_pos rfl, hx1, hdst]
      exact hA
    · -- a row and a row
      rename_i es1 n1 c1 b es2 n2 c2
      obtain ⟨x1, x2, rfl, hx1, hx2⟩ := two hxs
      split at hA
      · exact hA.elim
      rename_i hcond
      have hes1 : es1 = (E.T e).size := Classical.byContradiction fun q => hcond (.inl q)
      have hes2 : es2 = (E.T e).size := Classical.byContradiction fun q => hcond (.inr (.inl q))
      have hs0 : (E.T e).size ≠ 0 := fun q => hcond (.inr (.inr (.inl q)))
      have hz0 : zeroOk (E.T e) ≠ false := fun q => hcond (.inr (.inr (.inr q)))
      obtain ⟨⟨hn63, hnb, hok⟩, hA⟩ := hA
      obtain ⟨inf, zv, hinf, hzv, hss, hby, hzs⟩ := zero_size hE hs0 hz0
      · skip
        obtain ⟨s, rfl⟩ := evo_fl (f := f) (x := x1) (by rw [hx1]; simp [notFl])
        have hfs : f s = .vec true es1 n1 c1 := hx1
        have hr1 := ev_rs h (.tmp s)
        have hr2 := RS_dm (ev_rs h x2)
        rw [hx1] at hr1; rw [hx2] at hr2
        have hclr0 : clr f (some 0) [.tmp s, x2] = upd f s (.vec false es1 n1 c1) := by simp [clr, hfs]
        have hhc := h.clr (some 0) [.tmp s, x2]
        rcases R_vec_form (R_of_RS hr1 rfl) with ⟨_, _, he0⟩ | ⟨rfl, rfl, A, he0, hAo⟩
        rotate_left
        · rw [hAo rfl] at he0
          simp only [Nat.zero_add, List.nil_append] at hA hn63 hnb
          subst hes2
          rw [← hdst] at hA
          exact app_nil hE ho hhc hd hty hs0 hz0 he0 (R_of_RS hr2 rfl) hn63 hnb hA
        have hr2' := R_of_RS hr2 rfl
        simp only [R] at hr2'
        rcases hr2' with ⟨ad2, cap2, he2, hsp2, hlc2, hcm2, hcl2, hrz2⟩ | ⟨rfl, rfl, A2, he00, _⟩
        rotate_left
        · simp only [RS, R] at hr1
          obtain ⟨ad, cap, he1, hsp, hlc, hcm, hcl, hrz⟩ := hr1.resolve_right (fun q => by obtain ⟨_, _, A', q, q2⟩ := q; rw [q2 trivial, he0] at q; cases q)
          have hrun : (Builtin.append_ #[t, t] o.type #[a.eval (.tmp s), a.eval x2]).run P w = .ok (a.eval (.tmp s)) w := by
            rw [he1, he00]
            cases A2 <;> simp [Builtin.append_, run_underlying ht, run_sizeOf hinf, Builtin.lenOf, Builtin.firstCells, hlc, storeCells, loadCells, loadCellsFrom]
          refine wp_value (exec_append ho hrun) (fin_move (tk := some 0) (x := .tmp s) (bx := m.bx) h hd ?_)
          simp only [Nat.add_zero, List.append_nil] at hA
          rw [if_pos rfl, hx1, hdst, hes1]
          exact hA
        simp only [RS, R] at hr1 hr2
        obtain ⟨ad, cap, he1, hsp, hlc, hcm, hcl, hrz⟩ := hr1.resolve_right (fun q => by obtain ⟨_, _, A', q, q2⟩ := q; rw [q2 trivial, he0] at q; cases q)
        have had : ad = ⟨ad.block, ad.off, none⟩ := by cases ad; simp at hsp; simp [hsp]
        have had2 : ad2 = ⟨ad2.block, ad2.off, none⟩ := by cases ad2; simp at hsp2; simp [hsp2]
        obtain ⟨us, hus, hcell⟩ := RZ_vals _ _ _ hrz2
        have hlen := RL_length _ _ hus
        have hnew : ∀ (j : Nat) (v : Value), us[j]? = some v → w.cell? (ad2.add j) = some v := by
          intro j v hj; rw [had2, Addr.add_lit]; exact hcell j v hj
        have hl2 : us.length = n2 * inf.size := by rw [hlen, hcl2, hes2, hss]
        have h1 : ∀ v ∈ us, v.oneCell' = true := by
          intro v hv
          obtain ⟨i, hi⟩ := List.getElem?_of_mem hv
          have hil : i < c2.length := by rw [← hlen]; exact (List.getElem?_eq_some_iff.1 hi).1
          obtain ⟨u, hu, hRu⟩ := RL_get _ _ hus i c2[i] (List.getElem?_eq_getElem hil)
          rw [hi] at hu; injection hu with hu; subst hu
          exact oneCell_of hRu (List.all_eq_true.1 hok _ (List.getElem_mem hil))
        have hclr : clr f (some 0) [.tmp s, x2] = upd f s (.vec false es1 n1 c1) := by simp [clr, hfs]
        simp only [hclr, finF] at hA
        have he1' : vals a s = .slice (some ad) n1 cap := he1
        by_cases hroom : n1 + n2 ≤ cap
        · -- within the row
          obtain ⟨ho1, vs, T, hw, hfit, hzz⟩ := h.so s es1 n1 c1 ad cap hfs he1'
          obtain ⟨w', vs', q1, q2, q3, q4, q5, q6, q7, q8, q9, q10⟩ := run_append_in (P := P) (ty := o.type) (w := w) ht hinf hsp (n1 := n1) (k := cap) (b := ad2) (n2 := n2) (c2 := cap2) hl2 hnew h1 hroom hw (by rw [← hss, ← hes1]; exact hfit)
          obtain ⟨G', ow', r1, r2⟩ := h.growVec s d (e := es1) (n2 := n2) (c2 := c2) (us := us) hfs he1' hus (by rw [hcl2, hes2, hes1]) hroom hw ⟨vs', q2, q3, by rw [hes1, hss]; exact q4, by rw [hes1, hss]; exact q5⟩ q6 q7 q8 q9 q10
          refine wp_value (exec_append ho (by rw [he1, he2]; exact q1)) ⟨_, L, G', ow', hA, ?_, r2, defers_put _ _ _, size_put _ _ _⟩
          rw [hdst, vals_put hdl, ← hes1]
          exact r1
        · -- in a new row
          obtain ⟨olds, holds, hcello⟩ := RZ_vals _ _ _ hrz
          have hleno := RL_length _ _ holds
          have hold : ∀ (j : Nat) (v : Value), olds[j]? = some v → w.cell? (ad.add j) = some v := by
            intro j v hj; rw [had, Addr.add_lit]; exact hcello j v hj
          have hlo : olds.length = n1 * inf.size := by rw [hleno, hcl, hes1, hss]
          have hrun := run_append_grow (P := P) (w := w) t o.type e inf zv ht hinf hzv ad n1 cap olds hlo hold ad2 n2 cap2 us hl2 hnew (by omega) (by omega) (growslice_fits (by omega) (by rw [← hby]; omega))
          have hge : n1 + n2 ≤ grownCap w (n1 + n2) cap e := grownCap_ge _ _ _ _
          have hg := (h.clr (some 0) [.tmp s, x2]).grow (Grow.drew w)
          rw [hclr] at hg
          have hmulge : (n1 + n2) * inf.size ≤ grownCap w (n1 + n2) cap e * inf.size := Nat.mul_le_mul_right _ hge
          have hcs : (c1 ++ c2).length = (olds ++ us).length := by simp [hleno, hlen]
          refine wp_value (exec_append ho (by rw [he1, he2]; exact hrun)) (Fin.of_grow (Grow.drew w) h.zb (fun b k => (h.fb b k).1) (fin_fresh (e := inf.size) (n := n1 + n2) (cap := grownCap w (n1 + n2) cap e) (cs := c1 ++ c2) (w := w.drew) (bx := m.bx) hg hd ?_ (by rw [List.length_append, hcl, hcl2, hes1, hes2, hss, Nat.add_mul]) hge (grownCap_le_maxLen _ _ _ _ hn63) ?_ (by rw [hdst]; simp only [finF]; rw [← hss]; exact hA)))
          · have : (olds.toArray ++ us.toArray ++ Builtin.zeroCells zv.cells (grownCap w (n1 + n2) cap e - (n1 + n2))).toList.take (c1 ++ c2).length = olds ++ us := by
              rw [Array.toList_append, hcs]
              rw [show (olds.toArray ++ us.toArray).toList = olds ++ us from by simp]
              exact List.take_left' rfl
            rw [this]
            exact RL_mono ((Grow.drew w).le h.zb) _ _ (RL_append _ _ _ _ holds hus)
          · rw [Array.size_append, Array.size_append, size_zeroCells, hzs]
            simp only [List.size_toArray]
            rw [hlo, hl2, Nat.sub_mul, Nat.add_mul]
            rw [Nat.add_mul] at hmulge
            omega
    · -- a shared slice and a row
      rename_i id cap off n1 b es2 n2 c2
      obtain ⟨x1, x2, rfl, hx1, hx2⟩ := two hxs
      split at hA
      · exact hA.elim
      rename_i hcond
      have hes2 : es2 = (E.T e).size := Classical.byContradiction fun q => hcond (.inr (.inl q))
      have hs0 : (E.T e).size ≠ 0 := fun q => hcond (.inr (.inr (.inl q)))
      have hz0 : zeroOk (E.T e) ≠ false := fun q => hcond (.inr (.inr (.inr q)))
      obtain ⟨bx, gs⟩ := m
      obtain ⟨cs, hgs, ⟨hn0, hroom, hfit, hok, hdm⟩, hA⟩ := hA
      obtain ⟨inf, zv, hinf, hzv, hss, hby, hzs⟩ := zero_size hE hs0 hz0
      have hr1 := ev_rs h x1
      have hr2 := RS_dm (ev_rs h x2)
      rw [hx1] at hr1; rw [hx2] at hr2
      simp only [RS, R] at hr1
      obtain ⟨B, he1, hlc, hcm, hH⟩ := hr1
      have hr2' := R_of_RS hr2 rfl
      simp only [R] at hr2'
      obtain ⟨ad2, cap2, he2, hsp2, hlc2, hcm2, hcl2, hrz2⟩ := hr2'.resolve_right (fun q => by have := q.1; omega)
      have had2 : ad2 = ⟨ad2.block, ad2.off, none⟩ := by cases ad2; simp at hsp2; simp [hsp2]
      obtain ⟨us, hus, hcell⟩ := RZ_vals _ _ _ hrz2
      have hlen := RL_length _ _ hus
      have hnew : ∀ (j : Nat) (v : Value), us[j]? = some v → w.cell? (ad2.add j) = some v := by
        intro j v hj; rw [had2, Addr.add_lit]; exact hcell j v hj
      have hlk : look ⟨bx, gs⟩ (.obj id) = .cells 0 cs := look_obj hgs
      obtain ⟨B', vs, T, hb, hw, hsz', hr, hcell'⟩ := obj_cells h hlk
      have hBB : B' = B := by
        have hb2 := hb
        rw [hlk] at hb2
        exact h.hf _ _ _ _ hb2 hH
      subst hBB
      have hnf : ∀ x ∈ c2, notFl x := by
        intro x hx
        rw [← hdm] at hx
        obtain ⟨y, _, rfl⟩ := List.mem_map.1 hx
        exact notFl_dm y
      obtain ⟨w', vs', k1, k2, k3, k4, k5⟩ := store_obj (P := P) (off := off + n1 * (E.T e).size) h hlk hb hw hsz' hr hus hok (by rw [hcl2, hes2]; exact hfit) hnf
      rw [hss] at k1
      have hrun := run_append_at (P := P) (w := w) (ty := o.type) (b := ad2) (c2 := cap2) ht hinf (by rw [hlen, hcl2, hes2, hss]) hnew hroom k1
      simp only [clr_plain (show notFl (evo f x1) by rw [hx1]; trivial)] at hA
      refine wp_value (exec_append ho (by rw [he1, he2]; exact hrun)) ⟨_, L, G, ow, hA, ?_, k3, defers_put _ _ _, size_put _ _ _⟩
      rw [← hdst]
      refine k2.putd hd (x := .ap (.obj id) cap off (n1 + n2)) ?_ trivial bx
      simp only [RS, R]
      exact ⟨B', rfl, hroom, hcm, hH⟩
    · exact hA.elim

/-- A shared slice is made. -/
theorem s_makeSlice (hE : EOk P E) {t : Nat} {x y : Operand} (ho : o.op = .makeSlice t x y) (hA : AO E all o f m K) (h : HRel m f (vals a) w L G ow) (hd : ∀ x, o.dst = some x → x < a.tmps.size) : o.wp P a w (Fin a w G K) Q := by
  have htk : tki E all o = none := by simp [tki, ho]
  unfold AO at hA
  rw [htk, ho] at hA
  simp only [Op.operands, opvs_none, List.map_cons, List.map_nil, isMk, clr] at hA
  have hrs := ev_rs h x
  have hry := ev_rs h y
  generalize hc : dm (evo f x) = xc at hA
  generalize hcy : dm (evo f y) = yc at hA
  cases hdst : o.dst with
  | none => rw [hdst] at hA; simp only [aopC] at hA
  | some d =>
    rw [hdst] at hA
    simp only [aopC] at hA
    split at hA
    case h_2 => exact hA.elim
    rename_i d' e k l k' c hd' hty e1
    injection hd' with hd'; subst hd'
    injection e1 with e1 e2; subst e1; injection e2 with e2 _; subst e2
    split at hA
    case h_2 => exact hA.elim
    rename_i z hz
    split at hA
    · exact hA.elim
    rename_i hcond
    have hs0 : (E.T e).size ≠ 0 := fun q => hcond (.inl q)
    have hz0 : zeroOk (E.T e) ≠ false := fun q => hcond (.inr q)
    obtain ⟨⟨h0, hlc, hbb, h63⟩, hA⟩ := hA
    obtain ⟨bx, gs⟩ := m
    obtain ⟨inf, zv, hinf, hzv, hss, hby, hzs⟩ := zero_size hE hs0 hz0
    obtain ⟨inf', v, hinf', hv, rfl, _⟩ := ty_zero hE hz
    rw [hinf] at hinf'; injection hinf' with hinf'; subst hinf'
    rw [hzv] at hv; injection hv with hv; subst hv
    rw [dm_sc hc] at hrs
    rw [dm_sc hcy] at hry
    have he := RS_sc hrs
    have hey := RS_sc hry
    have hrun := run_make (P := P) w t e inf zv (ty_slice hE hty) hinf hzv k k' l c h0 hlc (by rw [← hby]; rw [Int.mul_comm]; omega) h63
    have hmade : madeCells zv.cells (c.toNat * inf.size) = Builtin.zeroCells zv.cells c.toNat := by
      unfold madeCells Builtin.zeroCells; rw [hzs]
    rw [hmade] at hrun
    have hzc : zsC c.toNat zv.cells.toList = (Builtin.zeroCells zv.cells c.toNat).toList.map .sc := by simp [zsC]
    obtain ⟨G', ow', h1, h2, h3⟩ := h.newObj (o := .cells 0 (zsC c.toNat zv.cells.toList)) (.cells (Builtin.zeroCells zv.cells c.toNat) e) trivial (fun ver cs q => by injection q with q _; exact q.symm)
      (fun cc hle hcw => ⟨Builtin.zeroCells zv.cells c.toNat, e, by rw [hcw]; show (w.heap.push _)[w.heap.size]? = _; simp, by rw [hzc]; simp, by
        rw [hzc, List.take_of_length_le (by simp)]
        exact RL_sc _⟩)
      (fun ver cs j x q hj => by
        injection q with _ q; subst q
        rw [hzc] at hj
        obtain ⟨u, _, rfl⟩ := List.mem_map.1 (List.mem_of_getElem? hj)
        trivial)
    refine wp_value (v := .slice (some ⟨w.heap.size, 0, none⟩) l.toNat c.toNat) (w' := w.alloc (.cells (Builtin.zeroCells zv.cells c.toNat) e)) (by simp only [execOp, ho, he, hey]; simp [hrun, -World.alloc_eq]) ⟨_, L, G', ow', hA, ?_, h2, defers_put _ _ _, size_put _ _ _⟩
    rw [← hdst]
    refine h1.putd hd (x := .ap (.obj gs.length) c.toNat 0 l.toNat) ?_ trivial bx
    simp only [RS, R]
    exact ⟨_, rfl, by omega, by show c.toNat ≤ 9223372036854775807; omega, h3⟩

/-- A shared slice is cleared. -/
theorem s_clear (hE : EOk P E) {c : Call} (ho : o.op = .call c) (hc : c.callee = .builtin .clear) (hA : AO E all o f m K) (h : HRel m f (vals a) w L G ow) (hd : ∀ x, o.dst = some x → x < a.tmps.size) : o.wp P a w (Fin a w G K) Q := by
  obtain ⟨callee, args, argTypes⟩ := c
  simp only at hc; subst hc
  have htk : tki E all o = none := by simp [tki, ho]
  unfold AO at hA
  rw [htk, ho] at hA
  simp only [Op.operands, Call.operands, Array.empty_append, opvs_none, isMk, clr, aopC] at hA
  split at hA
  case h_2 => exact hA.elim
  rename_i t ht
  generalize hxs : args.toList.map (fun x => dm (evo f x)) = xs at hA
  split at hA
  case h_2 => exact hA.elim
  rename_i e id cap off n hty
  split at hA
  case h_2 => exact hA.elim
  rename_i z hz
  split at hA
  · exact hA.elim
  rename_i hcond
  have hs0 : (E.T e).size ≠ 0 := fun q => hcond (.inl q)
  have hz0 : zeroOk (E.T e) ≠ false := fun q => hcond (.inr (.inl q))
  have hzk : (z.map AV.sc).all okc = true := by
    cases q : (z.map AV.sc).all okc with
    | true => rfl
    | false => exact absurd (.inr (.inr q)) hcond
  obtain ⟨bx, gs⟩ := m
  obtain ⟨cs, hgs, hfit, hA⟩ := hA
  obtain ⟨inf, zv, hinf, hzv, hss, hby, hzs⟩ := zero_size hE hs0 hz0
  obtain ⟨inf', v, hinf', hv, rfl, _⟩ := ty_zero hE hz
  rw [hinf] at hinf'; injection hinf' with hinf'; subst hinf'
  rw [hzv] at hv; injection hv with hv; subst hv
  obtain ⟨x, rfl, hx⟩ : ∃ x, args = #[x] ∧ dm (evo f x) = .ap (.obj id) cap off n := by
    have h1 : args.toList.length = 1 := by simpa using congrArg List.length hxs
    match hl : args.toList, h1 with
    | [x], _ =>
      rw [hl] at hxs
      simp at hxs
      refine ⟨x, ?_, hxs⟩
      have : args = args.toList.toArray := by simp
      rw [this, hl]
  have hrs := RS_dm (ev_rs h x)
  rw [hx] at hrs
  simp only [RS, R] at hrs
  obtain ⟨B, he, hlc, hcm, hH⟩ := hrs
  have hlk : look ⟨bx, gs⟩ (.obj id) = .cells 0 cs := look_obj hgs
  obtain ⟨B', vs, T, hb, hw, hsz', hr, hcell'⟩ := obj_cells h hlk
  have hBB : B' = B := by
    have hb2 := hb
    rw [hlk] at hb2
    exact h.hf _ _ _ _ hb2 hH
  subst hBB
  have hzc : zsC n zv.cells.toList = (Builtin.zeroCells zv.cells n).toList.map .sc := by simp [zsC]
  have hzl : (zsC n zv.cells.toList).length = n * (E.T e).size := by rw [hzc, List.length_map, Array.length_toList, size_zeroCells, hzs, hss]
  have hzok : (zsC n zv.cells.toList).all okc = true := by
    rw [hzc, List.all_map, List.all_eq_true]
    rw [List.all_map, List.all_eq_true] at hzk
    intro u hu
    refine hzk u ?_
    simp only [Builtin.zeroCells, Array.toList_map, List.mem_map] at hu
    obtain ⟨i, hi, rfl⟩ := hu
    have hi' : i < n * zv.cells.size := by simpa using hi
    have hpos : 0 < zv.cells.size := by rw [hzs, ← hss]; omega
    have hlt : i % zv.cells.size < zv.cells.size := Nat.mod_lt _ hpos
    rw [getElem!_pos zv.cells _ hlt]
    simp
  obtain ⟨w', vs', k1, k2, k3, k4, k5⟩ := store_obj (P := P) (off := off) h hlk hb hw hsz' hr (xs := zsC n zv.cells.toList) (us := (Builtin.zeroCells zv.cells n).toList) (by rw [hzc]; exact RL_sc _) hzok (by rw [hzl]; exact hfit) (fun x hx => by
    rw [hzc] at hx
    obtain ⟨u, _, rfl⟩ := List.mem_map.1 hx
    trivial)
  have hrun : (Builtin.clear_ argTypes o.type #[a.eval x]).run P w = .ok (.tuple #[]) w' := by
    rw [he]
    by_cases hn : n = 0
    · subst hn
      have hz0' : (Builtin.zeroCells zv.cells 0).toList = [] := by simp [Builtin.zeroCells]
      rw [hz0'] at k1
      simp only [storeCells, Sem.run_pure] at k1
      simp only [Builtin.clear_, ht]
      simp [run_underlying (ty_slice hE hty)]
      injection k1
    · obtain ⟨n', rfl⟩ : ∃ n', n = n' + 1 := ⟨n - 1, by omega⟩
      simp only [Builtin.clear_, ht]
      simp [run_underlying (ty_slice hE hty), run_zeroValue hinf hzv, k1]
  refine wp_value (v := .tuple #[]) (w' := w') (by simp [execOp, ho, resolve, invoke, builtin, hrun]) ⟨_, L, G, ow, hA, k2.putd hd (x := .undef) (by simp [RS, R]) trivial bx, k3, defers_put _ _ _, size_put _ _ _⟩
end
end Go.Proofs.YtjchgncgkhofhaaGreat.AL
