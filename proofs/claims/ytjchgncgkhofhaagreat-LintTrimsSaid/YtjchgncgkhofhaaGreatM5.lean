/- The A-logic: the operations, one by one (maps). -/
import Derived.Test.YtjchgncgkhofhaaGreatM4
import Derived.Orders
import Derived.Tactics
set_option linter.unusedVariables false
set_option linter.unusedSimpArgs false
namespace Go.Proofs.YtjchgncgkhofhaaGreat.AL
open Go

theorem fkTy_of {P : Program} {E : Env} (hE : EOk P E) {t : Nat} {x : AV} (h : keyOk E t x = true) : ∃ D k, P.underlying t = some D ∧ fkTy D k ∧ isFK k x = true ∧ (∀ y z, avEq E t y z = fkEq k y z) ∧ (∀ y, keyOk E t y = isFK k y) := by
  unfold keyOk at h
  split at h
  · rename_i k x' ht; exact ⟨_, _, ty_int hE ht, rfl, h, fun y z => by unfold avEq; rw [ht], fun y => by unfold keyOk; rw [ht]⟩
  · rename_i x' ht; exact ⟨_, _, ty_str hE ht, rfl, h, fun y z => by unfold avEq; rw [ht], fun y => by unfold keyOk; rw [ht]⟩
  · rename_i x' ht; exact ⟨_, _, ty_bool hE ht, rfl, h, fun y z => by unfold avEq; rw [ht], fun y => by unfold keyOk; rw [ht]⟩
  · cases h

/-- A key's real value. -/
theorem isFK_R {c : Wz} {k : FK} {x : AV} {v : Value} (h : isFK k x = true) (hx : R c x v) : x = .sc v ∧ ((∃ i p, k = .int i ∧ v = .int i p) ∨ (∃ p, k = .str ∧ v = .string p) ∨ (∃ p, k = .bool ∧ v = .bool p)) := by
  unfold isFK at h
  split at h
  · rename_i k1 k2 p
    have hk : k1 = k2 := by simpa using h
    subst hk
    simp only [R] at hx; subst hx
    exact ⟨rfl, .inl ⟨_, _, rfl, rfl⟩⟩
  · simp only [R] at hx; subst hx
    exact ⟨rfl, .inr (.inl ⟨_, rfl, rfl⟩)⟩
  · simp only [R] at hx; subst hx
    exact ⟨rfl, .inr (.inr ⟨_, rfl, rfl⟩)⟩
  · cases h

theorem same_now {c : Wz} {D : TypeDesc} {k : FK} (hk : fkTy D k) {x y : AV} {v u : Value} (hx : isFK k x = true) (hy : isFK k y = true) (hv : R c x v) (hu : R c y u) :
    ∃ b, fkEq k x y = some b ∧ Instr.sameNow D v u = some b ∧ (b = true → v = u) := by
  obtain ⟨rfl, h1⟩ := isFK_R hx hv
  obtain ⟨rfl, h2⟩ := isFK_R hy hu
  rcases h1 with ⟨i, p, rfl, rfl⟩ | ⟨p, rfl, rfl⟩ | ⟨p, rfl, rfl⟩ <;> rcases h2 with ⟨i', q, e, rfl⟩ | ⟨q, e, rfl⟩ | ⟨q, e, rfl⟩ <;> cases e <;> cases D <;> simp only [fkTy, reduceCtorEq] at hk
  · injection hk with hk; subst hk
    exact ⟨decide (p = q), by simp [fkEq], by simp [Instr.sameNow]; rfl, fun h => by simp at h; rw [h]⟩
  · exact ⟨decide (p = q), by simp [fkEq], by simp [Instr.sameNow, beq_bytes], fun h => by simp at h; rw [h]⟩
  · exact ⟨p == q, by simp [fkEq], by simp [Instr.sameNow], fun h => by simp at h; rw [h]⟩

theorem find_now {c : Wz} {D : TypeDesc} {k : FK} (hk : fkTy D k) {x : AV} {v : Value} (hx : isFK k x = true) (hv : R c x v) :
    ∀ (es : List (AV × AV)) (l : List MapEntry) (i : Nat), RM c es l → (∀ p ∈ es, isFK k p.1 = true) →
      (Instr.findNow D v l i = some none ∧ (es.find? fun p => fkEq k x p.1 == some true) = none ∧ (es.findIdx? fun p => fkEq k x p.1 == some true) = none) ∨
      (∃ (j : Nat) (e : MapEntry) (p : AV × AV), l[j]? = some e ∧ es[j]? = some p ∧ Instr.findNow D v l i = some (some (i + j, e.val)) ∧ (es.find? fun p => fkEq k x p.1 == some true) = some p ∧ (es.findIdx? fun p => fkEq k x p.1 == some true) = some j ∧ R c p.2 e.val ∧ e.key = v)
  | [], l, i, h, _ => by simp only [RM] at h; subst h; exact .inl ⟨rfl, rfl, rfl⟩
  | p :: es, l, i, h, hks => by
    obtain ⟨e, r, rfl, h1, h2, h3⟩ := h
    obtain ⟨b, e1, e2, e3⟩ := same_now hk hx (hks p (by simp)) hv h1
    cases b with
    | true =>
      refine .inr ⟨0, e, p, rfl, rfl, ?_, ?_, ?_, h2, (e3 rfl).symm⟩
      · simp [Instr.findNow, e2]
      · simp [List.find?, e1]
      · simp [List.findIdx?_cons, e1]
    | false =>
      have hb : (fkEq k x p.1 == some true) = false := by rw [e1]; rfl
      rcases find_now hk hx hv es r (i + 1) h3 (fun q hq => hks q (by simp [hq])) with ⟨q1, q2, q3⟩ | ⟨j, e', p', q1, q2, q3, q4, q5, q6⟩
      · refine .inl ⟨by simp [Instr.findNow, e2, q1], by simp [List.find?, hb, q2], by simp [List.findIdx?_cons, hb, q3]⟩
      · refine .inr ⟨j + 1, e', p', by simpa using q1, by simpa using q2, ?_, by simp [List.find?, hb, q4], by simp [List.findIdx?_cons, hb, q5], q6⟩
        simp only [Instr.findNow, e2, q3]
        rw [show i + 1 + j = i + (j + 1) from by omega]

theorem run_checkKey {P : Program} {t : Nat} {D : TypeDesc} {k : FK} (hD : P.underlying t = some D) (hk : fkTy D k) (b : Bool) (v : Value) (w : World) : (Instr.checkKey b 10000 t v).run P w = .ok () w := by
  have : ∀ n, (Instr.checkKey b (n + 1) t v).run P w = .ok () w := by
    intro n
    cases D <;> simp only [fkTy] at hk <;> simp [Instr.checkKey, run_underlying hD]
  exact this 9999

theorem run_findKey {P : Program} {t : Nat} {D : TypeDesc} (hD : P.underlying t = some D) {v : Value} {l : List MapEntry} {r : Option (Nat × Value)} (h : Instr.findNow D v l 0 = some r) (w : World) : (Instr.findKey t v l).run P w = .ok r w := by
  simp [Instr.findKey, run_underlying hD, h]

section
variable {P : Program} {E : Env} {all : List Oper} {o : Oper} {m : Mem} {f : Nat → AV} {a : Act} {w : World} {L : Nat → Nat} {G : Gh} {ow : Nat → Option Pos} {K : ASt → Prop} {Q : Exit → Act → World → Prop}

theorem isFK_okv {k : FK} {x : AV} (h : isFK k x = true) : okv x = true := by
  unfold isFK at h; split at h <;> first | rfl | cases h

theorem s_lookup (hE : EOk P E) {t : Nat} {x y : Operand} {ok : Bool} (ho : o.op = .lookup t x y ok) (hA : AO E all o f m K) (h : HRel m f (vals a) w L G ow) (hd : ∀ x, o.dst = some x → x < a.tmps.size) : o.wp P a w (Fin a w G K) Q := by
  have htk : tki E all o = none := by simp [tki, ho]
  unfold AO at hA
  rw [htk, ho] at hA
  simp only [Op.operands, opvs_none, List.map_cons, List.map_nil, isMk, clr, aopC] at hA
  have hrs := RS_dm (ev_rs h x)
  have hry := RS_dm (ev_rs h y)
  generalize hc : dm (evo f x) = xc at hA hrs
  generalize hcy : dm (evo f y) = yc at hA hry
  split at hA
  case h_2 => exact hA.elim
  rename_i kt et l key hty e1
  injection e1 with e1 e2; subst e1; injection e2 with e2 _; subst e2
  split at hA
  case h_2 => exact hA.elim
  rename_i z hz
  obtain ⟨es, hes, ⟨hkey, hkeys⟩, r, hr, hA⟩ := hA
  have hl : look m l = .map es := by
    cases l with
    | loc d => exact hes
    | obj id => exact look_obj hes
  obtain ⟨b, ents, clock, he, hb, hw, hm⟩ := map_of h hl hrs
  obtain ⟨D, k, hD, hk, hisk, hav, hko⟩ := fkTy_of hE hkey
  have hRk := R_of_RS hry (isFK_okv hisk)
  have hmt := ty_map hE hty
  simp only [hav] at hr
  rcases find_now hk hisk hRk es ents.toList 0 hm (fun p hp => by rw [← hko]; exact hkeys p hp) with ⟨q1, q2, _⟩ | ⟨j, e, p, q1, q2, q3, q4, q5, q6, q7⟩
  · rw [q2] at hr; subst hr
    obtain ⟨inf, zv, hinf, hzv, hzc, hshape⟩ := ty_zero hE hz
    have hRz : R (G.wz w) (if isAgg E et then AV.agg (z.map .sc) else (z.map AV.sc).headD .undef) zv ∧ notFl (if isAgg E et then AV.agg (z.map .sc) else (z.map AV.sc).headD .undef) := by
      rcases hshape with ⟨h1, h2⟩ | ⟨h1, h2⟩
      · rw [if_pos h1]; exact ⟨by simp only [R]; exact ⟨z, h2, RL_sc z⟩, trivial⟩
      · rw [h1, h2]; exact ⟨by simp [R], trivial⟩
    simp only [frc_eq] at hA
    have hrun : (Instr.lookup t (a.eval x) (a.eval y) ok).run P w = .ok (if ok then .tuple #[zv, .bool false] else zv) w := by
      simp [Instr.lookup, run_underlying hmt, he, run_getObj1 hw, run_checkKey hD hk, run_findKey hD q1, run_zeroValue hinf hzv]
    refine wp_value (v := if ok then .tuple #[zv, .bool false] else zv) (w' := w) (by simp only [execOp, ho, Sem.run_bind, hrun, Result.andThen_ok]; rfl) ?_
    cases ok with
    | true =>
      simp only [if_true] at hA ⊢
      refine fin_plain h hd (.refl _) (RS_of_R ?_) (by trivial) hA
      simp only [R]
      exact ⟨[zv, .bool false], rfl, RL_cons.2 ⟨hRz.1, RL_cons.2 ⟨by simp [R], RL_nil⟩⟩⟩
    | false =>
      simp only [Bool.false_eq_true, if_false] at hA ⊢
      exact fin_plain h hd (.refl _) (RS_of_R hRz.1) hRz.2 hA
  · rw [q4] at hr; subst hr
    simp only [frc_eq] at hA
    have hrun : (Instr.lookup t (a.eval x) (a.eval y) ok).run P w = .ok (if ok then .tuple #[e.val, .bool true] else e.val) w := by
      simp [Instr.lookup, run_underlying hmt, he, run_getObj1 hw, run_checkKey hD hk, run_findKey hD q3]
    refine wp_value (v := if ok then .tuple #[e.val, .bool true] else e.val) (w' := w) (by simp only [execOp, ho, Sem.run_bind, hrun, Result.andThen_ok]; rfl) ?_
    cases ok with
    | true =>
      simp only [if_true] at hA ⊢
      refine fin_plain h hd (.refl _) (RS_of_R ?_) (by trivial) hA
      simp only [R]
      exact ⟨[e.val, .bool true], rfl, RL_cons.2 ⟨R_dm q6, RL_cons.2 ⟨by simp [R], RL_nil⟩⟩⟩
    | false =>
      simp only [Bool.false_eq_true, if_false] at hA ⊢
      exact fin_plain h hd (.refl _) (RS_of_R (R_dm q6)) (notFl_dm _) hA

theorem RM_ext {c : Wz} : ∀ (es : List (AV × AV)) (l : List MapEntry), l.length = es.length → (∀ (i : Nat) (p : AV × AV) (e : MapEntry), es[i]? = some p → l[i]? = some e → R c p.1 e.key ∧ R c p.2 e.val) → RM c es l
  | [], l, hl, _ => by simp at hl; subst hl; rfl
  | p :: es, [], hl, _ => by simp at hl
  | p :: es, e :: l, hl, h => ⟨e, l, rfl, (h 0 p e rfl rfl).1, (h 0 p e rfl rfl).2, RM_ext es l (by simpa using hl) fun i q u h1 h2 => h (i + 1) q u (by simpa using h1) (by simpa using h2)⟩
theorem RM_get {c : Wz} : ∀ (es : List (AV × AV)) (l : List MapEntry), RM c es l → ∀ (i : Nat) (p : AV × AV) (e : MapEntry), es[i]? = some p → l[i]? = some e → R c p.1 e.key ∧ R c p.2 e.val
  | [], l, h, i, p, e, h1, _ => by simp at h1
  | q :: es, _, h, i, p, e, h1, h2 => by
    obtain ⟨u, r, rfl, k1, k2, k3⟩ := h
    cases i with
    | zero => simp at h1 h2; subst h1; subst h2; exact ⟨k1, k2⟩
    | succ i => exact RM_get es r k3 i p e (by simpa using h1) (by simpa using h2)
theorem RM_append {c : Wz} : ∀ (es es' : List (AV × AV)) (l l' : List MapEntry), RM c es l → RM c es' l' → RM c (es ++ es') (l ++ l')
  | [], _, _, _, h, k => by simp only [RM] at h; subst h; exact k
  | p :: es, es', _, l', h, k => by
    obtain ⟨u, r, rfl, k1, k2, k3⟩ := h
    exact ⟨u, r ++ l', rfl, k1, k2, RM_append es es' r l' k3 k⟩
theorem RM_erase {c : Wz} : ∀ (es : List (AV × AV)) (l : List MapEntry) (i : Nat), RM c es l → RM c (es.eraseIdx i) (l.eraseIdx i)
  | [], _, i, h => by simp only [RM] at h; subst h; simp [RM]
  | p :: es, _, i, h => by
    obtain ⟨u, r, rfl, k1, k2, k3⟩ := h
    cases i with
    | zero => exact k3
    | succ i => exact ⟨u, r.eraseIdx i, rfl, k1, k2, RM_erase es r i k3⟩

/-- A map's entries are laid anew. -/
theorem put_map (h : HRel m f (vals a) w L G ow) {l : Loc} {es es' : List (AV × AV)} {b : Nat} {ents ents' : Array MapEntry} {c0 c1 : Nat} (hl : look m l = .map es) (hb : Blk L G.H l (look m l) b) (hw : w.heap[b]? = some (.map ents c0))
    (hm : RM (G.wz w) es' ents'.toList) :
    HRel (setLook m l (.map es')) f (vals a) { w with heap := w.heap.setIfInBounds b (.map ents' c1) } L G ow ∧ Ext w G { w with heap := w.heap.setIfInBounds b (.map ents' c1) } G := by
  have hlt := (Array.getElem?_eq_some_iff.1 hw).1
  refine h.putObj (o' := .map es') (by rw [hl]; trivial) hb (fun c hc => ?_) (by simp) rfl rfl rfl (fun hle => ?_) (fun _ _ _ _ _ _ _ e => by cases e)
  · show (w.heap.setIfInBounds b _)[c]? = _
    rw [Array.getElem?_setIfInBounds_ne (fun e => hc e.symm)]
  · refine ⟨ents', c1, ?_, RM_mono hle _ _ hm⟩
    show (w.heap.setIfInBounds b _)[b]? = _
    simp [hlt]

theorem run_setObj1 {b : Nat} {es : Array MapEntry} {clock : Nat} {O : Obj} (hb : w.heap[b]? = some (.map es clock)) : (setObj b O).run P w = .ok () { w with heap := w.heap.setIfInBounds b O } := by
  simp [setObj, Sem.run, hb]

theorem sameBits_refl {k : FK} {v : Value} (h : (∃ i p, k = .int i ∧ v = .int i p) ∨ (∃ p, k = .str ∧ v = .string p) ∨ (∃ p, k = .bool ∧ v = .bool p)) : Instr.sameBits 10000 v v = true := by
  rcases h with ⟨i, p, _, rfl⟩ | ⟨p, _, rfl⟩ | ⟨p, _, rfl⟩
  · simp [Instr.sameBits]
  · simp [Instr.sameBits, beq_bytes]
  · simp [Instr.sameBits]

theorem s_mapUpdate (hE : EOk P E) {t : Nat} {x y z : Operand} (ho : o.op = .mapUpdate t x y z) (hA : AO E all o f m K) (h : HRel m f (vals a) w L G ow) (hd : ∀ x, o.dst = some x → x < a.tmps.size) : o.wp P a w (Fin a w G K) Q := by
  have htk : tki E all o = none := by simp [tki, ho]
  unfold AO at hA
  rw [htk, ho] at hA
  simp only [Op.operands, opvs_none, List.map_cons, List.map_nil, isMk, clr, aopC] at hA
  have hrs := RS_dm (ev_rs h x)
  have hry := RS_dm (ev_rs h y)
  have hrz := RS_dm (ev_rs h z)
  generalize hc : dm (evo f x) = xc at hA hrs
  generalize hcy : dm (evo f y) = yc at hA hry
  generalize hcz : dm (evo f z) = zc at hA hrz
  split at hA
  case h_2 => exact hA.elim
  rename_i kt et l key v hty e1
  injection e1 with e1 e2; subst e1; injection e2 with e2 e3; subst e2; injection e3 with e3 _; subst e3
  obtain ⟨es, hes, ⟨hkey, hokv, hkeys⟩, es', hr, hA⟩ := hA
  have hl : look m l = .map es := by
    cases l with
    | loc d => exact hes
    | obj id => exact look_obj hes
  obtain ⟨b, ents, clock, he, hb, hw, hm⟩ := map_of h hl hrs
  obtain ⟨D, k, hD, hk, hisk, hav, hko⟩ := fkTy_of hE hkey
  have hRk := R_of_RS hry (isFK_okv hisk)
  have hRv := R_of_RS hrz hokv
  have hmt := ty_map hE hty
  obtain ⟨_, hform⟩ := isFK_R hisk hRk
  simp only [hav] at hr
  have hK : K ⟨finF false m.bx o.dst .undef f, setLook m l (.map es')⟩ := by
    obtain ⟨bx, gs⟩ := m
    cases l <;> exact hA
  have fin : ∀ (ents' : Array MapEntry) (c1 : Nat), RM (G.wz w) es' ents'.toList → (Instr.mapUpdate t (a.eval x) (a.eval y) (a.eval z)).run P w = .ok () { w with heap := w.heap.setIfInBounds b (.map ents' c1) } → o.wp P a w (Fin a w G K) Q := by
    intro ents' c1 hm' hrun
    obtain ⟨r1, r2⟩ := put_map h hl hb hw hm' (c1 := c1)
    exact wp_skipop (w' := { w with heap := w.heap.setIfInBounds b (.map ents' c1) }) (by simp only [execOp, ho, Sem.run_bind, hrun, Result.andThen_ok]; rfl) ⟨_, L, G, ow, hK, r1.putd hd (x := .undef) (by simp [RS, R]) trivial m.bx, r2, defers_put _ _ _, size_put _ _ _⟩
  rcases find_now hk hisk hRk es ents.toList 0 hm (fun p hp => by rw [← hko]; exact hkeys p hp) with ⟨q1, _, q2⟩ | ⟨j, e, p, q1, q2, q3, _, q4, q6, q7⟩
  · rw [q2] at hr; subst hr
    refine fin (ents.push { key := a.eval y, val := a.eval z, born := clock }) (clock + 1) ?_ ?_
    · rw [Array.toList_push]
      exact RM_append _ _ _ _ hm ⟨_, [], rfl, hRk, R_dm hRv, rfl⟩
    · simp [Instr.mapUpdate, run_underlying hmt, he, run_getObj1 hw, run_checkKey hD hk, run_findKey hD q1, run_setObj1 hw]
  · rw [q4] at hr; subst hr
    have q1' : ents[j]? = some e := by simpa using q1
    refine fin (ents.modify j fun e => { e with key := a.eval y, val := a.eval z }) clock ?_ ?_
    · refine RM_ext _ _ (by simp [RM_length _ _ hm]) fun i p' e' h1 h2 => ?_
      rw [List.getElem?_set] at h1
      have h2' : (ents.modify j fun e => { e with key := a.eval y, val := a.eval z })[i]? = some e' := by rw [Array.getElem?_toList] at h2; exact h2
      rw [Array.getElem?_modify] at h2'
      by_cases hij : j = i
      · subst hij
        rw [if_pos rfl] at h1 h2'
        split at h1
        case isFalse => cases h1
        injection h1 with h1; subst h1
        rw [q1'] at h2'
        simp only [Option.map_some, Option.some.injEq] at h2'
        subst h2'
        exact ⟨hRk, R_dm hRv⟩
      · rw [if_neg hij] at h1 h2'
        exact RM_get _ _ hm i p' e' h1 (by simpa using h2')
    · have hst : ∀ w', (Instr.keyThatStays (((ents[j]?).map (·.key)).getD (a.eval y)) (a.eval y)).run P w' = .ok (a.eval y) w' := by
        intro w'
        rw [q1']
        simp [Instr.keyThatStays, q7, sameBits_refl hform]
      rw [Nat.zero_add] at q3
      simp only [Instr.mapUpdate, Sem.run_bind, run_underlying hmt, Result.andThen_ok, he, run_getObj1 hw, run_checkKey hD hk, run_findKey hD q3, hst, run_setObj1 hw]

theorem args_two {α : Type} {g : Operand → α} {args : Array Operand} {u v : α} (h : args.toList.map g = [u, v]) : ∃ x y, args = #[x, y] ∧ g x = u ∧ g y = v := by
  have ha : args = args.toList.toArray := by simp
  rcases hl : args.toList with _ | ⟨x, _ | ⟨y, _ | ⟨z, r⟩⟩⟩ <;> rw [hl] at h <;> simp at h
  exact ⟨x, y, by rw [ha, hl], h.1, h.2⟩

theorem s_delete (hE : EOk P E) {c : Call} (ho : o.op = .call c) (hc : c.callee = .builtin .delete) (hA : AO E all o f m K) (h : HRel m f (vals a) w L G ow) (hd : ∀ x, o.dst = some x → x < a.tmps.size) : o.wp P a w (Fin a w G K) Q := by
  obtain ⟨callee, args, argTypes⟩ := c
  simp only at hc; subst hc
  have htk : tki E all o = none := by simp [tki, ho]
  unfold AO at hA
  rw [htk, ho] at hA
  simp only [Op.operands, Call.operands, Array.empty_append, opvs_none, isMk, clr, aopC] at hA
  split at hA
  case h_2 => exact hA.elim
  rename_i t ht
  generalize hxs : args.toList.map (fun x => dm (evo f x)) = xs at hA
  split at hA
  case h_2 => exact hA.elim
  rename_i kt et l key hty
  obtain ⟨es, hes, ⟨hkey, hkeys⟩, es', hr, hA⟩ := hA
  have two : ∃ x y, args = #[x, y] ∧ dm (evo f x) = .mp l ∧ dm (evo f y) = key := args_two hxs
  obtain ⟨x, y, rfl, hx, hy⟩ := two
  have hrs := RS_dm (ev_rs h x)
  have hry := RS_dm (ev_rs h y)
  rw [hx] at hrs
  rw [hy] at hry
  have hl : look m l = .map es := by
    cases l with
    | loc d => exact hes
    | obj id => exact look_obj hes
  obtain ⟨b, ents, clock, he, hb, hw, hm⟩ := map_of h hl hrs
  obtain ⟨D, k, hD, hk, hisk, hav, hko⟩ := fkTy_of hE hkey
  have hRk := R_of_RS hry (isFK_okv hisk)
  have hmt := ty_map hE hty
  simp only [hav] at hr
  have hK : K ⟨finF false m.bx o.dst .undef f, setLook m l (.map es')⟩ := by
    obtain ⟨bx, gs⟩ := m
    cases l <;> exact hA
  have fin : ∀ (ents' : Array MapEntry) (c1 : Nat), RM (G.wz w) es' ents'.toList → (Builtin.delete_ argTypes o.type #[a.eval x, a.eval y]).run P w = .ok (.tuple #[]) { w with heap := w.heap.setIfInBounds b (.map ents' c1) } → o.wp P a w (Fin a w G K) Q := by
    intro ents' c1 hm' hrun
    obtain ⟨r1, r2⟩ := put_map h hl hb hw hm' (c1 := c1)
    exact wp_value (v := .tuple #[]) (w' := { w with heap := w.heap.setIfInBounds b (.map ents' c1) }) (by simp [execOp, ho, resolve, invoke, builtin, hrun]) ⟨_, L, G, ow, hK, r1.putd hd (x := .undef) (by simp [RS, R]) trivial m.bx, r2, defers_put _ _ _, size_put _ _ _⟩
  rcases find_now hk hisk hRk es ents.toList 0 hm (fun p hp => by rw [← hko]; exact hkeys p hp) with ⟨q1, _, q2⟩ | ⟨j, e, p, q1, q2, q3, _, q4, q6, q7⟩
  · rw [q2] at hr; subst hr
    refine fin ents clock hm ?_
    simp [Builtin.delete_, ht, run_underlying hmt, he, run_getObj1 hw, run_checkKey hD hk, run_findKey hD q1, run_setObj1 hw]
  · rw [q4] at hr; subst hr
    refine fin (ents.eraseIdxIfInBounds j) clock ?_ ?_
    · have : (ents.eraseIdxIfInBounds j).toList = ents.toList.eraseIdx j := by simp
      rw [this]; exact RM_erase _ _ _ hm
    · rw [Nat.zero_add] at q3
      simp [Builtin.delete_, ht, run_underlying hmt, he, run_getObj1 hw, run_checkKey hD hk, run_findKey hD q3, run_setObj1 hw]
end
end Go.Proofs.YtjchgncgkhofhaaGreat.AL
/- The A-logic: calls: what a call takes over, what it leaves. -/
set_option linter.unusedVariables false
set_option linter.unusedSimpArgs false
namespace Go.Proofs.YtjchgncgkhofhaaGreat.AL
open Go

def deadM (gs : List AObj) : Mem := ⟨fun _ => .dead, gs⟩
def argF (l : List AV) : Nat → AV := fun i => l.getD i .undef
def argV (l : List Value) : Nat → Value := fun i => l.getD i undef
def resF (x : AV) : Nat → AV := upd (fun _ => .undef) 0 x
def resV (v : Value) : Nat → Value := upd (fun _ => undef) 0 v

/-- What a call does, in abstract words: whoever meets the arguments' words gets a result that meets the result's. -/
def CallOk (P : Program) (g : FuncId) (args : List AV) (gs : List AObj) (Q : AV → List AObj → Prop) : Prop :=
  ∀ (w : World) (G : Gh) (ow : Nat → Option Pos) (L : Nat → Nat) (vs : List Value), vs.length = args.length → HRel (deadM gs) (argF args) (argV vs) w L G ow →
    Calls P g vs.toArray w fun e w' => ∃ v av gs' G' ow' L', e = .returned v ∧ Q av gs' ∧ HRel (deadM gs') (resF av) (resV v) w' L' G' ow' ∧ Ext w G w' G'
theorem CallOk.mono {P : Program} {g : FuncId} {args : List AV} {gs : List AObj} {Q Q' : AV → List AObj → Prop} (h : CallOk P g args gs Q) (hq : ∀ v gs', Q v gs' → Q' v gs') : CallOk P g args gs Q' :=
  fun w G ow L vs hl hr => (h w G ow L vs hl hr).mono fun e w' ⟨v, av, gs', G', ow', L', h1, h2, h3⟩ => ⟨v, av, gs', G', ow', L', h1, hq _ _ h2, h3⟩

def PlainFn (P : Program) (g : FuncId) : Prop := ∃ fn, P.funcs[g]? = some fn ∧ fn.body.isNone = false ∧ fn.name ≠ "runtime.NumGoroutine"
def EnvOk (P : Program) (E : Env) : Prop := EOk P E ∧ ∀ g args gs K, E.C g args gs K → PlainFn P g ∧ CallOk P g args gs K
theorem EnvOk.exact {P : Program} {E : Env} (h : EnvOk P E) : EnvOk P E.exact :=
  ⟨h.1, fun g args gs K hc => by
    obtain ⟨v, gs', h1, h2⟩ := hc
    obtain ⟨p1, p2⟩ := h.2 _ _ _ _ h1
    exact ⟨p1, p2.mono fun a b ⟨e1, e2⟩ => by subst e1; subst e2; exact h2⟩⟩

def isLoc : Pos → Prop
  | .blk (.loc _) | .slot _ | .cell (.loc _) _ => True
  | _ => False
def locB (N : Nat) (ow : Nat → Option Pos) (tb : Option Nat) (b : Nat) : Prop := tb ≠ some b ∧ b < N ∧ ∃ p, ow b = some p ∧ isLoc p
def Gh.under (G : Gh) (N : Nat) (ow : Nat → Option Pos) (tb : Option Nat) : Gh := ⟨G.Z, G.H, fun b => G.F b ∨ locB N ow tb b⟩
open Classical in
noncomputable def owIn (ow : Nat → Option Pos) (tb : Option Nat) (i0 : Nat) (b : Nat) : Option Pos :=
  if tb = some b then some (.slot i0) else match ow b with
    | some (.blk (.obj i)) => some (.blk (.obj i))
    | some (.cell (.obj i) j) => some (.cell (.obj i) j)
    | _ => none
open Classical in
noncomputable def owOut (G : Gh) (N : Nat) (ow : Nat → Option Pos) (tb : Option Nat) (ow' : Nat → Option Pos) (d : Option Nat) (b : Nat) : Option Pos :=
  if G.F b ∨ locB N ow tb b then ow b else match ow' b with
    | some (.slot _) => d.map .slot
    | x => x

section
variable {m : Mem} {S : Nat → AV} {V : Nat → Value} {w : World} {L : Nat → Nat} {G : Gh} {ow : Nat → Option Pos}

theorem Blk_obj {L L' : Nat → Nat} {H : Nat → Nat → Nat → Prop} {id : Nat} {ob : AObj} {b : Nat} : Blk L H (.obj id) ob b ↔ Blk L' H (.obj id) ob b := by cases ob <;> exact Iff.rfl
theorem RS_dead {c : Wz} {L : Nat → Nat} {x : AV} {v : Value} (h : RS c (fun _ => .dead) L x v) : R c x v := by
  match x, h with
  | .pp (.loc _) _, h => obtain ⟨⟨_, _, e⟩, _⟩ := h; cases e
  | .mp (.loc _), h => obtain ⟨⟨_, e⟩, _⟩ := h; cases e
  | .ap (.loc _) _ _ _, h => exact h.elim
  | .pp (.obj _) _, h => exact h
  | .mp (.obj _), h => exact h
  | .ap (.obj _) _ _ _, h => exact h
  | .undef, h => exact h
  | .sc _, h => exact h
  | .vec _ _ _ _, h => exact h
  | .agg _, h => exact h
  | .tup _, h => exact h
  | .fn _ _ _, h => exact h
  | .ifc _ _, h => exact h
  | .cp _ _, h => exact h

/-- What is handed over with a slice that may be appended to: its block. -/
def Taken (S : Nat → AV) (V : Nat → Value) (args : List AV) (vs : List Value) (tb : Option Nat) (i0 : Nat) : Prop :=
  (tb = none ∧ ∀ (i : Nat) (x : AV) (v : Value), args[i]? = some x → vs[i]? = some v → notFl x ∨ ∀ a n k, v ≠ .slice (some a) n k) ∨
  ∃ s e n cs ad k, tb = some ad.block ∧ args[i0]? = some (.vec true e n cs) ∧ vs[i0]? = some (.slice (some ad) n k) ∧ S s = .vec true e n cs ∧ V s = .slice (some ad) n k ∧ ∀ (i : Nat) (x : AV), args[i]? = some x → i ≠ i0 → notFl x

theorem argF_get {args : List AV} {i : Nat} : argF args i = .undef ∨ args[i]? = some (argF args i) := by
  unfold argF
  rw [List.getD_eq_getElem?_getD]
  cases h : args[i]? with
  | none => left; rfl
  | some x => right; rfl

theorem HRel.enter (h : HRel m S V w L G ow) {args : List AV} {vs : List Value} (hl : vs.length = args.length) (hR : ∀ (i : Nat) (x : AV) (v : Value), args[i]? = some x → vs[i]? = some v → R (G.wz w) x v)
    {tb : Option Nat} {i0 : Nat} (ht : Taken S V args vs tb i0) : HRel (deadM m.gs) (argF args) (argV vs) w L (G.under w.heap.size ow tb) (owIn ow tb i0) := by
  -- the taken block is owned by a slot
  have htb : ∀ b, tb = some b → ∃ s, ow b = some (.slot s) := by
    intro b hb
    rcases ht with ⟨e, _⟩ | ⟨s, e, n, cs, ad, k, e1, _, _, e4, e5, _⟩
    · rw [e] at hb; cases hb
    · rw [e1] at hb; injection hb with hb; subst hb
      exact ⟨s, (h.so s e n cs ad k e4 e5).1⟩
  have hval : ∀ i x, args[i]? = some x → ∃ v, vs[i]? = some v ∧ argV vs i = v := by
    intro i x hx
    have hi : i < vs.length := by rw [hl]; exact (List.getElem?_eq_some_iff.1 hx).1
    exact ⟨vs[i], List.getElem?_eq_getElem hi, by simp [argV, List.getD_eq_getElem?_getD, hi]⟩
  have hne : ∀ b l, ow b = some (.blk (.obj l)) → tb ≠ some b := by
    intro b l hb e
    obtain ⟨s, hs⟩ := htb b e
    rw [hb] at hs; cases hs
  have hne2 : ∀ b l j, ow b = some (.cell (.obj l) j) → tb ≠ some b := by
    intro b l j hb e
    obtain ⟨s, hs⟩ := htb b e
    rw [hb] at hs; cases hs
  refine { sl := ?_, ob := ?_, so := ?_, co := ?_, zb := h.zb, fb := ?_, hd := h.hd, hf := h.hf }
  · intro t
    rcases argF_get (args := args) (i := t) with e | e
    · rw [e]; simp [RS, R]
    · obtain ⟨v, hv, hv'⟩ := hval _ _ e
      rw [hv']
      exact RS_of_R (hR t _ v e hv)
  · intro l hl'
    cases l with
    | loc d => exact hl'.elim
    | obj id =>
      obtain ⟨b, h1, h2, h3, h4, h5⟩ := h.ob (.obj id) hl'
      refine ⟨b, h1, h2, h3, ?_, h5⟩
      unfold owIn
      rw [if_neg (hne b id h4), h4]
  · intro t e n cs a k hx hv
    rcases argF_get (args := args) (i := t) with e' | e'
    · rw [e'] at hx; cases hx
    · rw [hx] at e'
      rcases ht with ⟨_, hn⟩ | ⟨s, e1, n1, cs1, ad, k1, q1, q2, q3, q4, q5, q6⟩
      · obtain ⟨v, hv1, hv2⟩ := hval _ _ e'
        rw [hv2] at hv
        rcases hn t _ v e' hv1 with q | q
        · exact absurd q (by simp [notFl])
        · exact absurd hv (q _ _ _)
      · by_cases hti : t = i0
        · subst hti
          rw [q2] at e'
          injection e' with e'; injection e' with _ x1 x2 x3; subst x1; subst x2; subst x3
          obtain ⟨v, hv1, hv2⟩ := hval _ _ q2
          rw [hv2] at hv; subst hv
          rw [q3] at hv1; injection hv1 with hv1; injection hv1 with y1 y2 y3; injection y1 with y1; subst y1; subst y3
          obtain ⟨_, z2⟩ := h.so s e1 n1 cs1 ad k1 q4 q5
          exact ⟨by unfold owIn; rw [if_pos q1], z2⟩
        · exact absurd (q6 t _ e' hti) (by simp [notFl])
  · intro l ver cs b vs' T j x v h1 h2 h3 h4 h5
    cases l with
    | loc d => cases h1
    | obj id =>
      intro e n c a k hx hv
      obtain ⟨k1, k2⟩ := h.co (.obj id) ver cs b vs' T j x v h1 h2 h3 h4 h5 e n c a k hx hv
      exact ⟨by unfold owIn; rw [if_neg (hne2 _ _ _ k1), k1], k2⟩
  · rintro b (hb | ⟨hb, hbs, p, hp, hpl⟩)
    · have := h.fb b hb
      refine ⟨this.1, ?_⟩
      unfold owIn
      rw [if_neg (fun e => by obtain ⟨s, hs⟩ := htb b e; rw [this.2] at hs; cases hs), this.2]
    · constructor
      · exact hbs
      · unfold owIn
        rw [if_neg hb, hp]
        match p, hpl with
        | .blk (.loc _), _ => rfl
        | .slot _, _ => rfl
        | .cell (.loc _) _, _ => rfl

/-- Behind a call: the caller's own things are as they were. -/
theorem HRel.leave {gs' : List AObj} {av : AV} {v : Value} {w' : World} {L' : Nat → Nat} {G' : Gh} {ow' : Nat → Option Pos} {tb : Option Nat} {d : Option Nat}
    (h : HRel m S V w L G ow) (htb : ∀ b, tb = some b → ∃ s, ow b = some (.slot s) ∧ notFl (S s)) (h' : HRel (deadM gs') (resF av) (resV v) w' L' G' ow') (x : Ext w (G.under w.heap.size ow tb) w' G') :
    ∃ G'' ow'', HRel ⟨m.bx, gs'⟩ (match d with | some d => upd S d av | none => S) (match d with | some d => upd V d v | none => V) w' L G'' ow'' ∧ Ext w G w' G'' := by
  have hF : ∀ b, G'.F b ↔ (G.F b ∨ locB w.heap.size ow tb b) := fun b => by rw [x.F]; exact Iff.rfl
  have keep : ∀ b, G.F b ∨ locB w.heap.size ow tb b → w'.heap[b]? = w.heap[b]? := fun b hb => x.keep b hb
  have zf : ∀ b o, G.F b ∨ locB w.heap.size ow tb b → G'.Z b o → G.Z b o := fun b o hb => x.zf b o hb
  let G'' : Gh := ⟨G'.Z, G'.H, G.F⟩
  have hle : Wz.le (G.wz w) (G''.wz w') := ⟨fun b o k => x.le.z b o k, fun i v b k => x.le.h i v b k⟩
  have hin : ∀ b, G.F b ∨ locB w.heap.size ow tb b → owOut G w.heap.size ow tb ow' d b = ow b := fun b hb => by unfold owOut; rw [if_pos hb]
  have hout : ∀ b p, ow' b = some p → ¬ (G.F b ∨ locB w.heap.size ow tb b) := fun b p hp hb => by
    have := (h'.fb b ((hF b).2 hb)).2
    rw [this] at hp; cases hp
  have hloc : ∀ b p, b < w.heap.size → ow b = some p → isLoc p → (∀ s, p = .slot s → ¬ notFl (S s)) → locB w.heap.size ow tb b := by
    intro b p hb hp hpl hs
    refine ⟨fun e => ?_, hb, p, hp, hpl⟩
    obtain ⟨s, h1, h2⟩ := htb b e
    rw [hp] at h1; injection h1 with h1
    exact hs s h1 h2
  have hS : ∀ t, (match d with | some d => upd S d av | none => S) t = S t ∨ (d = some t ∧ (match d with | some d => upd S d av | none => S) t = av ∧ (match d with | some d => upd V d v | none => V) t = v) := by
    intro t
    cases d with
    | none => exact .inl rfl
    | some d =>
      by_cases e : t = d
      · subst e; exact .inr ⟨rfl, upd_at _ _ _, upd_at _ _ _⟩
      · exact .inl (upd_ne _ _ e)
  have hV : ∀ t, d ≠ some t → (match d with | some d => upd V d v | none => V) t = V t ∧ (match d with | some d => upd S d av | none => S) t = S t := by
    intro t ht
    cases d with
    | none => exact ⟨rfl, rfl⟩
    | some d => exact ⟨upd_ne _ _ (fun e => ht (by rw [e])), upd_ne _ _ (fun e => ht (by rw [e]))⟩
  have hRv : R (G''.wz w') av v := by
    have := h'.sl 0
    simp only [resF, resV, upd_at] at this
    exact RS_dead this
  refine ⟨G'', owOut G w.heap.size ow tb ow' d, { sl := ?_, ob := ?_, so := ?_, co := ?_, zb := h'.zb, fb := ?_, hd := h'.hd, hf := h'.hf }, ⟨hle, rfl, fun b hb => keep b (.inl hb), fun b o hb hz => zf b o (.inl hb) hz, x.size, x.os, x.output, x.tape⟩⟩
  · intro t
    by_cases ht : d = some t
    · subst ht
      simp only [upd_at]
      exact RS_of_R hRv
    · rw [(hV t ht).1, (hV t ht).2]
      exact RS_mono hle (h.sl t)
  · intro l hl
    cases l with
    | loc p =>
      obtain ⟨b, h1, h2, h3, h4, h5⟩ := h.ob (.loc p) hl
      have hb := hloc b _ h3 h4 trivial (fun s e => by cases e)
      exact ⟨b, h1, ORel_mono hle (keep b (.inr hb)) _ h2, Nat.lt_of_lt_of_le h3 x.size, by rw [hin b (.inr hb)]; exact h4, fun o hz => h5 o (zf b o (.inr hb) hz)⟩
    | obj id =>
      obtain ⟨b, h1, h2, h3, h4, h5⟩ := h'.ob (.obj id) hl
      refine ⟨b, (Blk_obj (L' := L)).1 h1, h2, h3, ?_, h5⟩
      unfold owOut
      rw [if_neg (hout b _ h4), h4]
  · intro t e n cs a k hx hv
    by_cases ht : d = some t
    · subst ht
      simp only [upd_at] at hx hv
      have := h'.so 0 e n cs a k (by simp only [resF, upd_at]; exact hx) (by simp only [resV, upd_at]; exact hv)
      refine ⟨?_, this.2⟩
      unfold owOut
      rw [if_neg (hout _ _ this.1), this.1]; rfl
    · rw [(hV t ht).2] at hx
      rw [(hV t ht).1] at hv
      obtain ⟨k1, vs, T, k2, k3, k4⟩ := h.so t e n cs a k hx hv
      have hb := hloc a.block _ (Array.getElem?_eq_some_iff.1 k2).1 k1 trivial (fun s e => by injection e with e; subst e; rw [hx]; simp [notFl])
      exact ⟨by rw [hin _ (.inr hb)]; exact k1, vs, T, (keep _ (.inr hb)).trans k2, k3, fun o hz => k4 o (zf _ _ (.inr hb) hz)⟩
  · intro l ver cs b vs T j y u h1 h2 h3 h4 h5
    cases l with
    | loc p =>
      have hal : alive (look m (.loc p)) := by
        have : look m (.loc p) = .cells ver cs := h1
        rw [this]; trivial
      obtain ⟨b', e1, e2, e3, e4, e5⟩ := h.ob (.loc p) hal
      have : b = b' := by
        have q1 : b = L p := h2
        have q2 : b' = L p := e1
        rw [q1, q2]
      subst this
      have hb := hloc b _ e3 e4 trivial (fun s e => by cases e)
      intro e n c a k hx hv
      obtain ⟨k1, us, T', k2, k3, k4⟩ := h.co (.loc p) ver cs b vs T j y u h1 e1 ((keep b (.inr hb)).symm.trans h3) h4 h5 e n c a k hx hv
      have hb2 := hloc a.block _ (Array.getElem?_eq_some_iff.1 k2).1 k1 trivial (fun s e => by cases e)
      exact ⟨by rw [hin _ (.inr hb2)]; exact k1, us, T', (keep _ (.inr hb2)).trans k2, k3, fun o hz => k4 o (zf _ _ (.inr hb2) hz)⟩
    | obj id =>
      intro e n c a k hx hv
      obtain ⟨k1, k2⟩ := h'.co (.obj id) ver cs b vs T j y u h1 ((Blk_obj (L' := L')).1 h2) h3 h4 h5 e n c a k hx hv
      refine ⟨?_, k2⟩
      unfold owOut
      rw [if_neg (hout _ _ k1), k1]
  · intro b hb
    have h0 := h.fb b hb
    exact ⟨Nat.lt_of_lt_of_le h0.1 x.size, by rw [hin b (.inl hb)]; exact h0.2⟩
end
end Go.Proofs.YtjchgncgkhofhaaGreat.AL
/- The A-logic: the call, and all operations at once. -/
set_option linter.unusedVariables false
set_option linter.unusedSimpArgs false
namespace Go.Proofs.YtjchgncgkhofhaaGreat.AL
open Go
section
variable {P : Program} {E : Env} {all : List Oper} {o : Oper} {m : Mem} {f : Nat → AV} {a : Act} {w : World} {L : Nat → Nat} {G : Gh} {ow : Nat → Option Pos} {K : ASt → Prop} {Q : Exit → Act → World → Prop}

theorem run_callFunc {g : FuncId} (h : PlainFn P g) (args : Array Value) : (callFunc g args).run P w = .ok (.enter g args) w := by
  obtain ⟨fn, h1, h2, h3⟩ := h
  unfold callFunc
  cases hb : fn.body with
  | none => simp [hb] at h2
  | some b => simp [h1, h3, hb]

theorem opvs_get (f : Nat → AV) (tk : Option Nat) : ∀ (l : List Operand) (k i : Nat) (x : Operand), l[i]? = some x → (opvs f tk k l)[i]? = some (if tk = some (k + i) then evo f x else dm (evo f x))
  | [], _, _, _, h => by simp at h
  | y :: l, k, 0, x, h => by simp at h; subst h; simp [opvs]
  | y :: l, k, i + 1, x, h => by
    have := opvs_get f tk l (k + 1) i x (by simpa using h)
    simp only [opvs, List.getElem?_cons_succ]
    rw [this, show k + 1 + i = k + (i + 1) from by omega]
theorem opvs_len (f : Nat → AV) (tk : Option Nat) : ∀ (l : List Operand) (k : Nat), (opvs f tk k l).length = l.length
  | [], _ => rfl
  | _ :: l, k => by simp [opvs, opvs_len f tk l (k + 1)]

theorem notFl_map_dm (l : List AV) : ∀ x ∈ l.map dm, notFl x := by
  intro x hx
  obtain ⟨y, _, rfl⟩ := List.mem_map.1 hx
  exact notFl_dm y

theorem s_call (hE : EnvOk P E) {c : Call} {fo : Operand} (ho : o.op = .call c) (hc : c.callee = .value fo) (hA : AO E all o f m K) (h : HRel m f (vals a) w L G ow) (hd : ∀ x, o.dst = some x → x < a.tmps.size) : o.wp P a w (Fin a w G K) Q := by
  obtain ⟨callee, args, argTypes⟩ := c
  simp only at hc; subst hc
  have htk : tki E all o = none ∨ tki E all o = some 1 := by
    unfold tki; rw [ho]
    cases fo with
    | func g => dsimp only; split <;> first | exact .inl rfl | exact .inr rfl
    | tmp _ => exact .inl rfl
    | const _ => exact .inl rfl
    | global _ => exact .inl rfl
  unfold AO at hA
  rw [ho] at hA
  generalize htke : tki E all o = tk at hA htk
  have hops : (Op.call { callee := .value fo, args := args, argTypes := argTypes }).operands.toList = fo :: args.toList := by simp [Op.operands, Call.operands]
  rw [hops] at hA
  simp only [opvs, isMk] at hA
  rw [if_neg (by rcases htk with e | e <;> rw [e] <;> simp)] at hA
  have hrs := ev_rs h fo
  generalize hfc : dm (evo f fo) = fc at hA
  cases fc with
  | fn fn first caps =>
    rw [dm_fn hfc] at hrs
    simp only [RS, R] at hrs
    obtain ⟨as, bs, he, hras, hrbs⟩ := hrs
    cases fn with
    | func g =>
      simp only [aopC, frcL_eq] at hA
      split at hA
      case isFalse => exact hA.elim
      rename_i hok
      obtain ⟨hplain, hcall⟩ := hE.2 _ _ _ _ hA
      -- the arguments, as they are
      have hlenA := opvs_len f tk args.toList (0 + 1)
      have hRa : ∀ (i : Nat) (x : AV) (v : Value), (opvs f tk (0 + 1) args.toList)[i]? = some x → (args.toList.map a.eval)[i]? = some v → R (G.wz w) x v := by
        intro i x v hx hv
        rw [List.getElem?_map] at hv
        cases hq : args.toList[i]? with
        | none => rw [hq] at hv; cases hv
        | some y =>
          rw [hq] at hv
          simp only [Option.map_some, Option.some.injEq] at hv; subst hv
          have := opvs_get f tk args.toList (0 + 1) i y hq
          rw [hx] at this; injection this with this
          have hokx : okv x = true := List.all_eq_true.1 hok x (List.mem_of_getElem? hx)
          have hr : RS (G.wz w) m.bx L x (a.eval y) := by
            rw [this]; split
            · exact ev_rs h y
            · exact RS_dm (ev_rs h y)
          exact R_of_RS hr hokx
      have hRL : RL (G.wz w) (opvs f tk (0 + 1) args.toList) (args.toList.map a.eval) := RL_ext _ _ (by rw [hlenA]; simp) hRa
      have hRLall : RL (G.wz w) (first.map dm ++ opvs f tk (0 + 1) args.toList ++ caps.map dm) (as ++ args.toList.map a.eval ++ bs) :=
        RL_append _ _ _ _ (RL_append _ _ _ _ (RL_dm _ _ hras) hRL) (RL_dm _ _ hrbs)
      have hlen := RL_length _ _ hRLall
      have hRall : ∀ (i : Nat) (x : AV) (v : Value), (first.map dm ++ opvs f tk (0 + 1) args.toList ++ caps.map dm)[i]? = some x → (as ++ args.toList.map a.eval ++ bs)[i]? = some v → R (G.wz w) x v := by
        intro i x v hx hv
        obtain ⟨u, hu, hR⟩ := RL_get _ _ hRLall i x hx
        rw [hv] at hu; injection hu with hu; subst hu; exact hR
      have hfl := RL_length _ _ hras
      -- what is taken over
      have htaken : ∃ tb, Taken f (vals a) (first.map dm ++ opvs f tk (0 + 1) args.toList ++ caps.map dm) (as ++ args.toList.map a.eval ++ bs) tb first.length ∧
          (∀ b, tb = some b → ∃ s, ow b = some (.slot s) ∧ notFl (clr f tk (fo :: args.toList) s)) := by
        by_cases hall : ∀ x ∈ opvs f tk (0 + 1) args.toList, notFl x
        · refine ⟨none, .inl ⟨rfl, fun i x v hx _ => .inl ?_⟩, fun b hb => by cases hb⟩
          have hm := List.mem_of_getElem? hx
          simp only [List.mem_append] at hm
          rcases hm with (hm | hm) | hm
          · exact notFl_map_dm _ _ hm
          · exact hall x hm
          · exact notFl_map_dm _ _ hm
        · -- the first argument bears the right
          have htk1 : tk = some 1 := by
            rcases htk with e | e
            · exact absurd (fun x hx => by
                rw [e, opvs_none] at hx
                obtain ⟨y, _, rfl⟩ := List.mem_map.1 hx
                exact notFl_dm _) hall
            · exact e
          subst htk1
          cases hal : args.toList with
          | nil => exact absurd (by rw [hal]; intro x hx; cases hx) hall
          | cons x0 r =>
            have hrest : opvs f (some 1) (0 + 1) (x0 :: r) = evo f x0 :: r.map fun x => dm (evo f x) := by
              simp only [opvs, if_true]
              congr 1
              have : ∀ (l : List Operand) (k : Nat), 1 < k → opvs f (some 1) k l = l.map fun x => dm (evo f x) := by
                intro l
                induction l with
                | nil => intros; rfl
                | cons y l ih => intro k hk; simp only [opvs, List.map_cons]; rw [if_neg (by simp; omega), ih (k + 1) (by omega)]
              exact this r _ (by omega)
            rw [hal, hrest] at hall
            have hnf : ¬ notFl (evo f x0) := by
              intro hn
              apply hall
              intro x hx
              rcases List.mem_cons.1 hx with rfl | hx
              · exact hn
              · obtain ⟨y, _, rfl⟩ := List.mem_map.1 hx; exact notFl_dm _
            obtain ⟨s, rfl⟩ := evo_fl hnf
            cases hfs : f s with
            | vec bb e n cs => cases bb with
              | false => exact absurd (by rw [show evo f (.tmp s) = f s from rfl, hfs]; trivial) hnf
              | true =>
                have hsl := h.sl s
                rw [hfs] at hsl
                have hoth : ∀ (i : Nat) (x : AV), (first.map dm ++ opvs f (some 1) (0 + 1) (.tmp s :: r) ++ caps.map dm)[i]? = some x → i ≠ first.length → notFl x := by
                  intro i x hx hne
                  rw [hrest] at hx
                  have hm : (x ∈ first.map dm ∨ x ∈ r.map (fun x => dm (evo f x)) ∨ x ∈ caps.map dm) := by
                    rw [List.append_assoc] at hx
                    by_cases hi : i < (first.map dm).length
                    · rw [List.getElem?_append_left hi] at hx
                      exact .inl (List.mem_of_getElem? hx)
                    · rw [List.getElem?_append_right (by omega)] at hx
                      obtain ⟨j, hj⟩ : ∃ j, i - (first.map dm).length = j + 1 := ⟨i - (first.map dm).length - 1, by simp at hi ⊢; omega⟩
                      rw [hj, List.cons_append, List.getElem?_cons_succ] at hx
                      have := List.mem_of_getElem? hx
                      exact .inr (List.mem_append.1 this)
                  rcases hm with hm | hm | hm
                  · exact notFl_map_dm _ _ hm
                  · obtain ⟨y, _, rfl⟩ := List.mem_map.1 hm; exact notFl_dm _
                  · exact notFl_map_dm _ _ hm
                have hat : (as ++ (Operand.tmp s :: r).map a.eval ++ bs)[first.length]? = some (vals a s) := by
                  rw [List.append_assoc, List.getElem?_append_right (by omega), hfl]
                  simp [Act.eval, vals]
                rcases R_vec_form (R_of_RS hsl rfl) with ⟨ad, k, hval⟩ | ⟨_, _, A, hval, hAo⟩
                rotate_left
                · rw [hAo rfl] at hval
                  refine ⟨none, .inl ⟨rfl, fun i x v hx hv => ?_⟩, fun b hb => by cases hb⟩
                  by_cases hi : i = first.length
                  · subst hi
                    rw [hat] at hv; injection hv with hv
                    refine .inr fun a n k e => ?_
                    rw [← hv, hval] at e; cases e
                  · exact .inl (hoth i x hx hi)
                refine ⟨some ad.block, .inr ⟨s, e, n, cs, ad, k, rfl, ?_, by rw [hat, hval], hfs, hval, hoth⟩, fun b hb => ?_⟩
                · rw [hrest, List.append_assoc, List.getElem?_append_right (by simp)]
                  simp [show evo f (.tmp s) = f s from rfl, hfs]
                · injection hb with hb; subst hb
                  refine ⟨s, (h.so s e n cs ad k hfs hval).1, ?_⟩
                  have : clr f (some 1) (fo :: .tmp s :: r) = upd f s (.vec false e n cs) := by simp [clr, hfs]
                  rw [this, upd_at]; trivial
            | _ => exact absurd (by rw [show evo f (.tmp s) = f s from rfl, hfs]; trivial) hnf
      obtain ⟨tb, ht1, ht2⟩ := htaken
      have hent := h.enter hlen hRall ht1
      have hres := hcall w _ _ L _ hlen hent
      -- the step
      have hexec : (execOp a.eval o).run P w = .ok (.enter g (as ++ args.toList.map a.eval ++ bs).toArray) w := by
        have harr : as.toArray ++ args.map a.eval ++ bs.toArray = (as ++ args.toList.map a.eval ++ bs).toArray := by
          apply Array.toList_inj.1; simp
        simp only [execOp, ho, resolve, he, Deferred.ofValue, Sem.run_bind, Sem.run_pure, Result.andThen_ok, invoke]
        rw [run_callFunc hplain, harr]
      unfold Oper.wp
      rw [hexec]
      simp only [Oper.upon]
      refine hres.mono ?_
      rintro e w' ⟨v, av, gs', G', ow', L', rfl, hq, hr', hx⟩
      obtain ⟨bx, gs⟩ := m
      have hq : K ⟨finF false bx o.dst av (clr f tk (fo :: args.toList)), ⟨bx, gs'⟩⟩ := by
        split at hq
        · obtain ⟨e1, hq⟩ := hq
          rw [frc_eq] at hq
          subst e1; exact hq
        · simp only [frc_eq] at hq; exact hq
      obtain ⟨G'', ow'', r1, r2⟩ := (h.clr tk (fo :: args.toList)).leave (d := o.dst) ht2 hr' hx
      refine ⟨_, L, G'', ow'', hq, ?_, r2, defers_put _ _ _, size_put _ _ _⟩
      cases hdst : o.dst with
      | none => rw [hdst] at r1; exact r1
      | some d => rw [hdst] at r1; rw [vals_put (hd d hdst)]; exact r1
    | _ => exact hA.elim
  | _ => exact hA.elim
end
end Go.Proofs.YtjchgncgkhofhaaGreat.AL
/- The A-logic: all operations at once; regions whose order is told. -/
set_option linter.unusedVariables false
set_option linter.unusedSimpArgs false
namespace Go.Proofs.YtjchgncgkhofhaaGreat.AL
open Go
section
variable {P : Program} {E : Env} {all : List Oper} {o : Oper} {m : Mem} {f : Nat → AV} {a : Act} {w : World} {L : Nat → Nat} {G : Gh} {ow : Nat → Option Pos} {K : ASt → Prop} {Q : Exit → Act → World → Prop}

theorem s_op (hE : EnvOk P E) (hA : AO E all o f m K) (h : HRel m f (vals a) w L G ow) (hd : ∀ x, o.dst = some x → x < a.tmps.size) : o.wp P a w (Fin a w G K) Q := by
  have nope : ∀ {op : Op}, o.op = op → (∀ xs KK, ¬ aopC E o.dst (tkl E all o) op xs m KK) → o.wp P a w (Fin a w G K) Q := by
    intro op ho hn
    unfold AO at hA
    rw [ho] at hA
    exact absurd hA (hn _ _)
  cases ho : o.op with
  | move x => exact s_move (.inl ho) hA h hd
  | assign x => exact s_move (.inr ho) hA h hd
  | pick c x y => exact s_pick ho hA h hd
  | alloc t => exact s_alloc hE.1 ho hA h hd
  | box t x => exact s_box hE.1 ho hA h hd
  | build t ps => exact s_build hE.1 ho hA h hd
  | buildSlice t n ps => exact s_buildSlice hE.1 ho hA h hd
  | load t x => exact s_load hE.1 ho hA h hd
  | store t x y => exact s_store hE.1 ho hA h hd
  | nilCheck x => exact s_nilCheck ho hA h hd
  | binOp op t x y rt => exact s_binOp hE.1 ho hA h hd
  | unOp op t x => exact s_unOp ho hA h hd
  | convert s t x => exact s_convert hE.1 ho hA h hd
  | makeFunc fn fs cs => exact s_makeFunc ho hA h hd
  | makeMap t r => cases r with
    | none => exact s_makeMap hE.1 ho hA h hd
    | some r => exact nope ho (fun xs KK h => h)
  | makeSlice t x y => exact s_makeSlice hE.1 ho hA h hd
  | slice t x lo hi mx => exact s_slice hE.1 ho hA h hd
  | fieldAddr t x i => exact s_fieldAddr hE.1 ho hA h hd
  | field t x i => exact s_field hE.1 ho hA h hd
  | indexAddr t x i => exact s_indexAddr hE.1 ho hA h hd
  | index t x i => exact s_index hE.1 ho hA h hd
  | lookup t x y ok => exact s_lookup hE.1 ho hA h hd
  | mapUpdate t x y z => exact s_mapUpdate hE.1 ho hA h hd
  | extract x i => exact s_extract ho hA h hd
  | call c =>
    cases hc : c.callee with
    | value fo => exact s_call hE ho hc hA h hd
    | builtin b =>
      cases b with
      | len => exact s_len hE.1 ho hc hA h hd
      | append => exact s_append hE.1 ho hc hA h hd
      | delete => exact s_delete hE.1 ho hc hA h hd
      | clear => exact s_clear hE.1 ho hc hA h hd
      | _ => exact nope ho (fun xs KK h => by obtain ⟨callee, args, ats⟩ := c; simp only at hc; subst hc; exact h)
    | invoke r n => exact nope ho (fun xs KK h => by obtain ⟨callee, args, ats⟩ := c; simp only at hc; subst hc; exact h)
  | _ => exact nope ho (fun xs KK h => h)

/-- One operation of a region, wanted or not. -/
def rstep (P : Program) (ops : Array Oper) (Q : Exit → Act → World → Prop) (o : Oper) (next : Act → World → Prop) (a : Act) (w : World) : Prop :=
  if Region.wanted o (yielded ops a.tmps) then o.wp P a w next Q else next (a.put o.dst undef) w

theorem gslot_eq {ops : Array Oper} {j : Nat} : gslot ops.toList j = (ops[j]?).bind (·.dst) := by
  unfold gslot
  rw [Array.getElem?_toList]
  cases ops[j]? <;> rfl

theorem upd_lit {f : Nat → AV} {g : Nat} {v : AV} (h : f g = v) : upd f g v = f := by rw [← h]; exact upd_same f g

theorem astep_ok {ops : Array Oper} (hE : EnvOk P E) {st : ASt} (hA : astep E ops.toList o st K) (h : HRel st.m st.f (vals a) w L G ow) (hd : ∀ x, o.dst = some x → x < a.tmps.size) : rstep P ops Q o (Fin a w G K) a w := by
  obtain ⟨f, m⟩ := st
  have skip : ∀ {f' : Nat → AV}, f' = f → Region.wanted o (yielded ops a.tmps) = false → (fin false m.bx o.dst (.sc (.tuple #[])) f' fun f => K ⟨f, m⟩) → rstep P ops Q o (Fin a w G K) a w := by
    intro f' hf hw hk
    subst hf
    unfold rstep
    rw [hw]
    rw [fin_eq] at hk
    exact fin_plain (x := .sc (.tuple #[])) h hd (.refl _) (by simp [RS, R]; rfl) trivial hk
  have take : ∀ {f' : Nat → AV}, f' = f → Region.wanted o (yielded ops a.tmps) = true → aop E ops.toList o ⟨f', m⟩ K → rstep P ops Q o (Fin a w G K) a w := by
    intro f' hf hw hk
    subst hf
    unfold rstep
    rw [hw]
    rw [aop_eq] at hk
    exact s_op hE hk h hd
  unfold astep at hA
  cases hg : o.guard with
  | none =>
    rw [hg] at hA
    exact take rfl (by simp [Region.wanted, hg]) hA
  | some gw =>
    obtain ⟨j, want⟩ := gw
    rw [hg] at hA
    simp only at hA
    split at hA
    case h_2 => exact hA.elim
    rename_i g f' m' hgs e1
    injection e1 with e1 e2; subst e1; subst e2
    rw [gslot_eq] at hgs
    have hyield : ∀ v, vals a g = v → v ≠ undef → a.tmps[g]? = some v := by
      intro v hv hne
      unfold vals at hv
      rw [Array.getD_eq_getD_getElem?] at hv
      cases hq : a.tmps[g]? with
      | none => rw [hq] at hv; exact absurd hv.symm hne
      | some u => rw [hq] at hv; simpa using hv
    split at hA
    · rename_i b hfg
      have hv : vals a g = .bool b := RS_sc (by have := h.sl g; simp only [hfg] at this; exact this)
      have hy : yielded ops a.tmps j = some b := by
        unfold yielded
        rw [hgs]
        have := hyield _ hv (by intro e; cases e)
        simp [this]
      have hw : ∀ wnt, Region.wanted o (yielded ops a.tmps) = (b == wnt) ∨ want ≠ wnt := by
        intro wnt
        by_cases e : want = wnt
        · subst e; left; unfold Region.wanted; rw [hg]; simp only [hy]; cases b <;> cases want <;> rfl
        · exact .inr e
      cases b <;> cases want <;> simp only at hA
      · exact take (upd_lit hfg) ((hw false).resolve_right (by simp)) hA
      · exact skip (upd_lit hfg) ((hw true).resolve_right (by simp)) hA
      · exact skip (upd_lit hfg) ((hw false).resolve_right (by simp)) hA
      · exact take (upd_lit hfg) ((hw true).resolve_right (by simp)) hA
    · rename_i u hfg
      have hv : vals a g = .tuple u := RS_sc (by have := h.sl g; simp only [hfg] at this; exact this)
      have hy : yielded ops a.tmps j = none := by
        unfold yielded
        rw [hgs]
        unfold vals at hv
        rw [Array.getD_eq_getD_getElem?] at hv
        cases hq : a.tmps[g]? with
        | none => simp [hq]
        | some z => rw [hq] at hv; simp only [Option.getD_some] at hv; subst hv; simp [hq]
      exact skip rfl (by unfold Region.wanted; rw [hg]; simp [hy]) hA
    · exact hA.elim

theorem Fin.trans {a1 a2 : Act} {w1 w2 : World} {G1 : Gh} (hx : Ext w G w1 G1) (hdf : a1.defers = a.defers) (hsz : a1.tmps.size = a.tmps.size) (h : Fin a1 w1 G1 K a2 w2) : Fin a w G K a2 w2 := by
  obtain ⟨st, L', G', ow', h1, h2, h3, h4, h5⟩ := h
  exact ⟨st, L', G', ow', h1, h2, hx.trans h3, h4.trans hdf, h5.trans hsz⟩

theorem rstep_mono {ops : Array Oper} {next next' : Act → World → Prop} (h : rstep P ops Q o next a w) (hn : ∀ a w, next a w → next' a w) : rstep P ops Q o next' a w := by
  unfold rstep at *
  split
  · rename_i hw; rw [if_pos hw] at h; exact Oper.wp_mono hn h
  · rename_i hw; rw [if_neg hw] at h; exact hn _ _ h

theorem aops_ok {ops : Array Oper} (hE : EnvOk P E) : ∀ (rest : List Oper) (st : ASt) (a : Act) (w : World) (L : Nat → Nat) (G : Gh) (ow : Nat → Option Pos), aops E ops.toList rest st K → HRel st.m st.f (vals a) w L G ow →
    (∀ o ∈ rest, ∀ x, o.dst = some x → x < a.tmps.size) → (∀ a' w', Fin a w G K a' w' → Q .normal a' w') → wpList P ops Q rest a w
  | [], st, a, w, L, G, ow, hA, h, _, hQ => hQ a w ⟨st, L, G, ow, hA, h, .refl _ _, rfl, rfl⟩
  | o :: rest, st, a, w, L, G, ow, hA, h, hd, hQ => by
    have h1 := astep_ok (Q := Q) (P := P) hE hA h (hd o (by simp))
    have h2 := rstep_mono (next' := wpList P ops Q rest) h1 (fun a1 w1 hf => by
      obtain ⟨st1, L1, G1, ow1, k1, k2, k3, k4, k5⟩ := hf
      exact aops_ok hE rest st1 a1 w1 L1 G1 ow1 k1 k2 (fun o' ho' x hx => by rw [k5]; exact hd o' (by simp [ho']) x hx) (fun a' w' hf => hQ a' w' (hf.trans k3 k4 k5)))
    unfold rstep at h2
    unfold wpList
    split
    · rename_i hw; rw [if_pos hw] at h2; exact .inl h2
    · rename_i hw; rw [if_neg hw] at h2; exact h2
end
end Go.Proofs.YtjchgncgkhofhaaGreat.AL
