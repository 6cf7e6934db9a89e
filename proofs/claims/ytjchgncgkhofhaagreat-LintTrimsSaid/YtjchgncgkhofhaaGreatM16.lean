/- What the law's argument is, read off memory: a program in abstract words. -/
import Derived.Test.YtjchgncgkhofhaaGreatM15
import GoSem.ClaimChange
import GoSem.ClaimJoined
import Derived.DataReads
import Derived.Test.YtjchgncgkhofhaaGreatRows
import Derived.ProofKit
import Derived.SizedLaws
import Derived.Carry
set_option linter.unusedVariables false
namespace Go.Proofs.YtjchgncgkhofhaaGreat.AL
open Go

/-- All that lies in memory stays as it is. -/
def Gh0 (w : World) : Gh := ⟨fun b _ => b < w.heap.size, fun _ _ _ => False, fun b => b < w.heap.size⟩
section
variable {H : Type} {enc : TypeId × Value → H} {w : World}
noncomputable abbrev trd (enc : TypeId × Value → H) (w : World) := DataW.trod enc prg w 0 (fun _ => true) true
/-- No weight is above what a machine's memory holds. -/
def Wt (t : TypeId) (d : DataW H) : Prop := ∀ x ∈ d.weights prg t, x ≤ reachBytes

theorem each_part : ∀ (ts : List TypeId) (ds : List (DataW H)), (∀ x ∈ DataW.weightsEach prg ts ds, x ≤ reachBytes) → ∀ (i : Nat) (t : TypeId) (d : DataW H), ts[i]? = some t → ds[i]? = some d → Wt t d
  | [], _, _, i, t, d, h, _ => by simp at h
  | _ :: _, [], _, i, t, d, _, h => by simp at h
  | u :: ts, e :: ds, hw, i, t, d, h1, h2 => by
    simp only [DataW.weightsEach, List.mem_append] at hw
    cases i with
    | zero => simp at h1 h2; subst h1; subst h2; exact fun x hx => hw x (.inl hx)
    | succ i => exact each_part ts ds (fun x hx => hw x (.inr hx)) i t d (by simpa using h1) (by simpa using h2)
theorem all_part (e : TypeId) : ∀ (ds : List (DataW H)), (∀ x ∈ DataW.weightsAll prg e ds, x ≤ reachBytes) → ∀ d ∈ ds, Wt e d
  | [], _, d, h => by cases h
  | u :: ds, hw, d, h => by
    simp only [DataW.weightsAll, List.mem_append] at hw
    rcases List.mem_cons.1 h with rfl | h
    · exact fun x hx => hw x (.inl hx)
    · exact all_part e ds (fun x hx => hw x (.inr hx)) d h
theorem trd_int {fuel : Nat} {t : TypeId} {cs : List Value} {d : DataW H} {ps : List MemPlace} (ht : prg.underlying t = some (.int .i64)) (h : trd enc w fuel t cs = some (d, ps)) : ∃ k : Int, cs = [.int .i64 k] ∧ -9223372036854775808 ≤ k ∧ k ≤ 9223372036854775807 := by
  cases fuel with
  | zero => simp [trd, DataW.trod] at h
  | succ n =>
    unfold trd DataW.trod at h
    rw [ht] at h
    split at h <;> try (simp_all; done)
    rename_i k k' m e1
    injection e1 with e1; injection e1 with e1; subst e1
    split at h
    case isFalse => cases h
    rename_i hh
    obtain ⟨rfl, hw⟩ := hh
    simp only [Lit.wf, Bool.and_eq_true, decide_eq_true_eq] at hw
    exact ⟨m, rfl, hw.1, hw.2⟩
theorem trd_str {fuel : Nat} {t : TypeId} {cs : List Value} {d : DataW H} {ps : List MemPlace} (ht : prg.underlying t = some .string) (h : trd enc w fuel t cs = some (d, ps)) : ∃ s : ByteArray, cs = [.string s] := by
  cases fuel with
  | zero => simp [trd, DataW.trod] at h
  | succ n =>
    unfold trd DataW.trod at h
    rw [ht] at h
    split at h <;> (simp_all; done)
/-- A struct's parts. -/
theorem trd_struct {fuel : Nat} {t : TypeId} {fs : List (Nat × Nat)} (hty : (TT t).ty = .struct fs) {cs : List Value} {d : DataW H} {ps : List MemPlace} (h : trd enc w fuel t cs = some (d, ps)) (hwt : Wt t d) :
    cs.length = prg.cellsOf t ∧ ∀ (i off ty : Nat), fs[i]? = some (off, ty) → ∃ n d' ps', trd enc w n ty ((cs.drop off).take (prg.cellsOf ty)) = some (d', ps') ∧ Wt ty d' := by
  obtain ⟨Fs, hu, hfs⟩ := ty_struct (P := prg) (E := E0) TT_ok hty
  cases fuel with
  | zero => simp [trd, DataW.trod] at h
  | succ n =>
    unfold trd DataW.trod at h
    rw [hu] at h
    split at h <;> try (simp_all; done)
    rename_i Fs' e1
    injection e1 with e1; injection e1 with e1; subst e1
    split at h
    case isFalse => cases h
    rename_i hl
    refine ⟨hl, fun i off ty hi => ?_⟩
    rw [Option.map_eq_some_iff] at h
    obtain ⟨xs, hxs, hd⟩ := h
    rw [hfs, List.getElem?_map, Option.map_eq_some_iff] at hi
    obtain ⟨f, hf, he⟩ := hi
    injection he with he1 he2
    subst he1; subst he2
    have hx := mapM_some_get hxs i f hf
    have hlen := mapM_some_length hxs
    have hil : i < xs.length := by rw [hlen]; exact (List.getElem?_eq_some_iff.1 hf).1
    rw [List.getElem?_eq_getElem hil] at hx
    refine ⟨n, xs[i].1, xs[i].2, hx, ?_⟩
    injection hd with hd1 _
    subst hd1
    unfold Wt at hwt
    rw [DataW.weights, hu] at hwt
    exact each_part _ _ hwt i _ _ (by rw [List.getElem?_map, hf]; rfl) (by rw [List.getElem?_map, List.getElem?_eq_getElem hil]; rfl)
theorem picks {α : Type} {n : Nat} {P : Nat → α → Prop} (h : ∀ i, i < n → ∃ x, P i x) : ∃ l : List α, l.length = n ∧ ∀ (i : Nat) (hi : i < l.length), P i l[i] := by
  induction n with
  | zero => exact ⟨[], rfl, fun i hi => by simp at hi⟩
  | succ n ih =>
    obtain ⟨l, h1, h2⟩ := ih fun i hi => h i (by omega)
    obtain ⟨x, hx⟩ := h n (by omega)
    refine ⟨l ++ [x], by simp [h1], fun i hi => ?_⟩
    by_cases hil : i < l.length
    · rw [List.getElem_append_left hil]; exact h2 i hil
    · have : i = l.length := by simp at hi; omega
      subst this
      simp [h1, hx]
theorem RZ_flat {α : Type} {g : α → List AV} {es b : Nat} (hg : ∀ x, (g x).length = es) : ∀ (l : List α) (o : Nat), (∀ (i : Nat) (hi : i < l.length), ∃ cs : List Value, RL ((Gh0 w).wz w) (g l[i]) cs ∧ ∀ (j : Nat) (v : Value), cs[j]? = some v → w.cell? ⟨b, o + i * es + j, none⟩ = some v) → RZ ((Gh0 w).wz w) b o (l.flatMap g)
  | [], _, _ => by simp [RZ]
  | x :: l, o, h => by
    rw [List.flatMap_cons]
    obtain ⟨cs, h1, h2⟩ := h 0 (by simp)
    refine RZ_append _ _ _ _ (RZ_of _ cs _ _ h1 (fun j v hv => by have := h2 j v hv; rw [Nat.zero_mul, Nat.add_zero] at this; exact this) fun j hj => ?_) ?_
    · have := h2 j cs[j] (List.getElem?_eq_getElem hj)
      unfold World.cell? at this
      split at this
      · rename_i hb; exact (Array.getElem?_eq_some_iff.1 hb).1
      · cases this
    · rw [hg]
      refine RZ_flat hg l (o + es) fun i hi => ?_
      obtain ⟨cs', k1, k2⟩ := h (i + 1) (by simpa using hi)
      refine ⟨cs', by simpa using k1, fun j v hv => ?_⟩
      have := k2 j v hv
      rwa [show o + (i + 1) * es + j = o + es + i * es + j from by rw [Nat.succ_mul]; omega] at this
theorem addr_add2 (b o m n : Nat) : ((⟨b, o, none⟩ : Addr).add m).add n = ⟨b, o + m + n, none⟩ := by
  unfold Addr.add
  by_cases hm : m = 0 <;> by_cases hn : n = 0 <;> simp [hm, hn]
theorem trd_slice {α : Type} {g : α → List AV} {es : Nat} (hg : ∀ x, (g x).length = es) (hes : es ≠ 0) {t e : TypeId} (ht : prg.underlying t = some (.slice e)) (hc : prg.cellsOf e = es) {Q : α → Prop}
    (hel : ∀ (fuel : Nat) (cs : List Value) (d : DataW H) (ps : List MemPlace), trd enc w fuel e cs = some (d, ps) → Wt e d → ∃ x, RL ((Gh0 w).wz w) (g x) cs ∧ Q x)
    {fuel : Nat} {cs : List Value} {d : DataW H} {ps : List MemPlace} (h : trd enc w fuel t cs = some (d, ps)) (hwt : Wt t d) :
    ∃ (v : Value) (l : List α), cs = [v] ∧ R ((Gh0 w).wz w) (.vec false es l.length (l.flatMap g)) v ∧ (∀ x ∈ l, Q x) ∧ l.length * prg.bytesOf e ≤ reachBytes := by
  cases fuel with
  | zero => simp [trd, DataW.trod] at h
  | succ n =>
    unfold trd DataW.trod at h
    rw [ht] at h
    split at h <;> try (simp_all; done)
    · exact ⟨_, [], rfl, by simp only [R]; exact .inr ⟨rfl, rfl, none, rfl, fun _ => rfl⟩, by simp, by simp⟩
    rename_i e' a len cap e1
    injection e1 with e1; injection e1 with e1; subst e1
    simp only at h
    split at h
    case isFalse => cases h
    rename_i hh
    obtain ⟨_, hlc, hcm⟩ := hh
    rw [Option.bind_eq_some_iff] at h
    obtain ⟨elems, hel1, h⟩ := h
    rw [Option.map_eq_some_iff] at h
    obtain ⟨rest, hrest, hd⟩ := h
    injection hd with hd1 _
    have hlen := mapM_some_length hel1
    have hrl := mapM_some_length (by simpa using hrest)
    simp only [List.length_range] at hlen hrl
    subst hd1
    unfold Wt at hwt
    rw [DataW.weights, ht] at hwt
    simp only [List.mem_cons, List.mem_append] at hwt
    have hw0 := hwt _ (.inl rfl)
    have hwe := all_part e (elems.map (·.1)) (fun x hx => hwt x (.inr (.inl hx)))
    have hcell : ∀ i, i < len → ∃ x, (∃ cs : List Value, RL ((Gh0 w).wz w) (g x) cs ∧ cs.length = es ∧ ∀ j, j < es → w.cell? ((a.add (i * es)).add j) = cs[j]?) ∧ Q x := by
      intro i hi
      have h1 := mapM_some_get hel1 i i (by simp [hi])
      have hil : i < elems.length := by omega
      rw [List.getElem?_eq_getElem hil, Option.bind_eq_some_iff] at h1
      obtain ⟨csi, hcs, htr⟩ := h1
      rw [hc] at hcs
      obtain ⟨_, k1, k2⟩ := World.cells?_some hcs
      obtain ⟨x, hx1, hx2⟩ := hel n csi _ _ htr (hwe _ (List.mem_map.2 ⟨elems[i], List.getElem_mem hil, rfl⟩))
      exact ⟨x, ⟨csi, hx1, k1, k2⟩, hx2⟩
    have hspot : 0 < cap → a.spot = none := by
      intro hcap
      have hfirst : w.cell? a ≠ none := by
        by_cases hl0 : 0 < len
        · obtain ⟨x, ⟨csi, _, k1, k2⟩, _⟩ := hcell 0 hl0
          have := k2 0 (by omega)
          rw [Nat.zero_mul] at this
          have e0 : (a.add 0).add 0 = a := rfl
          rw [e0, List.getElem?_eq_getElem (by omega)] at this
          rw [this]; simp
        · have hl0 : len = 0 := by omega
          subst hl0
          have hrest' : (List.range (cap - 0)).mapM (fun j => (w.cells? 0 (a.add ((0 + j) * prg.cellsOf e)) (prg.cellsOf e)).bind (DataW.trod enc prg w 0 (fun _ => true) true n e)) = some rest := by simpa using hrest
          have h1 := mapM_some_get hrest' 0 0 (by rw [List.getElem?_range (by omega)])
          have hr0 : 0 < rest.length := by omega
          rw [List.getElem?_eq_getElem hr0, Option.bind_eq_some_iff] at h1
          obtain ⟨csi, hcs, _⟩ := h1
          rw [hc] at hcs
          obtain ⟨_, k1, k2⟩ := World.cells?_some hcs
          have := k2 0 (by omega)
          rw [Nat.zero_add, Nat.zero_mul] at this
          have e0 : (a.add 0).add 0 = a := rfl
          rw [e0, List.getElem?_eq_getElem (by omega)] at this
          rw [this]; simp
      unfold World.cell? at hfirst
      split at hfirst
      · split at hfirst
        · exact absurd rfl hfirst
        · rename_i hs; simpa using hs
      · exact absurd rfl hfirst
    obtain ⟨l, hl, hP⟩ := picks hcell
    refine ⟨_, l, rfl, ?_, fun x hx => ?_, ?_⟩
    · simp only [R]
      by_cases hcap : 0 < cap
      · have hsp := hspot hcap
        have had : a = ⟨a.block, a.off, none⟩ := by cases a; simp at hsp; simp [hsp]
        refine .inl ⟨a, cap, by rw [hl], hsp, by omega, hcm, length_cells hg l, ?_⟩
        refine RZ_flat hg l a.off fun i hi => ?_
        obtain ⟨⟨cs, k1, k2, k3⟩, _⟩ := hP i hi
        refine ⟨cs, k1, fun j v hv => ?_⟩
        have hj : j < es := by rw [← k2]; exact (List.getElem?_eq_some_iff.1 hv).1
        have := k3 j hj
        rw [hv] at this
        rw [← this]
        have e9 : (a.add (i * es)).add j = ⟨a.block, a.off + i * es + j, none⟩ := by
          rw [had]; exact addr_add2 _ _ _ _
        rw [e9]
      · have : len = 0 := by omega
        have hl0 : l = [] := List.eq_nil_of_length_eq_zero (by omega)
        subst hl0
        exact .inr ⟨rfl, rfl, some a, by rw [this, show cap = 0 from by omega], fun e => by cases e⟩
    · obtain ⟨i, hi, rfl⟩ := List.getElem_of_mem hx
      exact (hP i hi).2
    · rw [hl, ← hlen]
      refine Nat.le_trans ?_ hw0
      simp only [List.length_map]
      exact Nat.mul_le_mul_right _ (Nat.le_add_right _ _)
end
end Go.Proofs.YtjchgncgkhofhaaGreat.AL
/- A program, read off memory part by part. -/
set_option linter.unusedVariables false
namespace Go.Proofs.YtjchgncgkhofhaaGreat.AL
open Go
theorem RL_step {c : Wz} {xs ys : List AV} {cs : List Value} (o n : Nat) (hx : RL c xs ((cs.drop o).take n)) (hy : RL c ys (cs.drop (o + n))) : RL c (xs ++ ys) (cs.drop o) := by
  have := RL_append _ _ _ _ hx hy
  rwa [← List.drop_drop, List.take_append_drop] at this
theorem RL_last {c : Wz} {xs : List AV} {cs : List Value} (o n : Nat) (hl : cs.length = o + n) (hx : RL c xs ((cs.drop o).take n)) : RL c xs (cs.drop o) := by
  rwa [List.take_of_length_le (by rw [List.length_drop]; omega)] at hx
theorem cells3 : prg.cellsOf 3 = 1 := by kernel_rfl
theorem cells2 : prg.cellsOf 2 = 1 := by kernel_rfl
theorem cells9 : prg.cellsOf 9 = 1 := by kernel_rfl
theorem cells22 : prg.cellsOf 22 = 1 := by kernel_rfl
theorem cells24 : prg.cellsOf 24 = 1 := by kernel_rfl
theorem cells32 : prg.cellsOf 32 = 1 := by kernel_rfl
theorem cells34 : prg.cellsOf 34 = 3 := by kernel_rfl
theorem cells35 : prg.cellsOf 35 = 1 := by kernel_rfl
theorem cells37 : prg.cellsOf 37 = 4 := by kernel_rfl
theorem cells44 : prg.cellsOf 44 = 4 := by kernel_rfl
theorem cells46 : prg.cellsOf 46 = 14 := by kernel_rfl
theorem bytes44 : prg.bytesOf 44 = 40 := by kernel_rfl
theorem bytes46 : prg.bytesOf 46 = 152 := by kernel_rfl
theorem bytes37 : prg.bytesOf 37 = 72 := by kernel_rfl
theorem reach_le : reachBytes ≤ 140737488355328 := by decide
section
variable {H : Type} {enc : TypeId × Value → H} {w : World} {fuel : Nat} {cs : List Value} {d : DataW H} {ps : List MemPlace}
theorem un3 : prg.underlying 3 = some (.int .i64) := ty_int (P := prg) (E := E0) TT_ok rfl
theorem un2 : prg.underlying 2 = some (.int .i64) := ty_int (P := prg) (E := E0) TT_ok rfl
theorem un9 : prg.underlying 9 = some .string := ty_str (P := prg) (E := E0) TT_ok rfl
theorem rd44 (h : trd enc w fuel 44 cs = some (d, ps)) (hw : Wt 44 d) : ∃ t : Tm, RL ((Gh0 w).wz w) (cT t) cs ∧ rngT t := by
  obtain ⟨hl, hf⟩ := trd_struct (fs := [(0, 3), (1, 2), (2, 9), (3, 3)]) rfl h hw
  rw [cells44] at hl
  obtain ⟨_, _, _, h0, _⟩ := hf 0 0 3 rfl
  obtain ⟨_, _, _, h1, _⟩ := hf 1 1 2 rfl
  obtain ⟨_, _, _, h2, _⟩ := hf 2 2 9 rfl
  obtain ⟨_, _, _, h3, _⟩ := hf 3 3 3 rfl
  obtain ⟨k0, e0, _⟩ := trd_int un3 h0
  obtain ⟨k1, e1, hk1⟩ := trd_int un2 h1
  obtain ⟨s2, e2⟩ := trd_str un9 h2
  obtain ⟨k3, e3, _⟩ := trd_int un3 h3
  rw [cells3] at e0 e3; rw [cells2] at e1; rw [cells9] at e2
  refine ⟨⟨k0, k1, s2, k3⟩, ?_, hk1⟩
  have : RL ((Gh0 w).wz w) ([.sc (.int .i64 k0)] ++ ([.sc (.int .i64 k1)] ++ ([.sc (.string s2)] ++ [.sc (.int .i64 k3)]))) (cs.drop 0) := by
    refine RL_step 0 1 (by rw [e0]; exact RL_sc [_]) (RL_step 1 1 (by rw [e1]; exact RL_sc [_]) (RL_step 2 1 (by rw [e2]; exact RL_sc [_]) (RL_last 3 1 (by omega) (by rw [e3]; exact RL_sc [_]))))
  exact this
theorem rd32 (h : trd enc w fuel 32 cs = some (d, ps)) (hw : Wt 32 d) : ∃ (v : Value) (l : List Tm), cs = [v] ∧ R ((Gh0 w).wz w) (vT l) v ∧ (∀ x ∈ l, rngT x) ∧ l.length * 40 ≤ reachBytes := by
  obtain ⟨v, l, h1, h2, h3, h4⟩ := trd_slice (g := cT) (es := 4) (fun _ => rfl) (by decide) (ty_slice (P := prg) (E := E0) TT_ok rfl) cells44 (Q := rngT) (fun _ _ _ _ => rd44) h hw
  rw [bytes44] at h4
  exact ⟨v, l, h1, h2, h3, h4⟩
theorem rd34 (h : trd enc w fuel 34 cs = some (d, ps)) (hw : Wt 34 d) : ∃ a : At, RL ((Gh0 w).wz w) (cA a) cs ∧ (∀ x ∈ a.args, rngT x) ∧ a.args.length * 40 ≤ reachBytes := by
  obtain ⟨hl, hf⟩ := trd_struct (fs := [(0, 9), (1, 32), (2, 3)]) rfl h hw
  rw [cells34] at hl
  obtain ⟨_, _, _, h0, _⟩ := hf 0 0 9 rfl
  obtain ⟨_, _, _, h1, w1⟩ := hf 1 1 32 rfl
  obtain ⟨_, _, _, h2, _⟩ := hf 2 2 3 rfl
  obtain ⟨s0, e0⟩ := trd_str un9 h0
  obtain ⟨v, l, e1, r1, q1, b1⟩ := rd32 h1 w1
  obtain ⟨k2, e2, _⟩ := trd_int un3 h2
  rw [cells3] at e2; rw [cells32] at e1; rw [cells9] at e0
  refine ⟨⟨s0, l, k2⟩, ?_, q1, b1⟩
  have : RL ((Gh0 w).wz w) ([.sc (.string s0)] ++ ([vT l] ++ [.sc (.int .i64 k2)])) (cs.drop 0) := by
    refine RL_step 0 1 (by rw [e0]; exact RL_sc [_]) (RL_step 1 1 (by rw [e1]; exact RL_cons.2 ⟨r1, RL_nil⟩) (RL_last 2 1 (by omega) (by rw [e2]; exact RL_sc [_])))
  exact this
theorem rd46 (h : trd enc w fuel 46 cs = some (d, ps)) (hw : Wt 46 d) : ∃ l : Lt, RL ((Gh0 w).wz w) (cL l) cs ∧ termsR l ∧ l.atom.args.length * 40 ≤ reachBytes := by
  obtain ⟨hl, hf⟩ := trd_struct (fs := [(0, 3), (1, 34), (4, 3), (5, 44), (9, 44), (13, 3)]) rfl h hw
  rw [cells46] at hl
  obtain ⟨_, _, _, h0, _⟩ := hf 0 0 3 rfl
  obtain ⟨_, _, _, h1, w1⟩ := hf 1 1 34 rfl
  obtain ⟨_, _, _, h2, _⟩ := hf 2 4 3 rfl
  obtain ⟨_, _, _, h3, w3⟩ := hf 3 5 44 rfl
  obtain ⟨_, _, _, h4, w4⟩ := hf 4 9 44 rfl
  obtain ⟨_, _, _, h5, _⟩ := hf 5 13 3 rfl
  obtain ⟨k0, e0, _⟩ := trd_int un3 h0
  obtain ⟨a, r1, q1, b1⟩ := rd34 h1 w1
  obtain ⟨k2, e2, _⟩ := trd_int un3 h2
  obtain ⟨t3, r3, q3⟩ := rd44 h3 w3
  obtain ⟨t4, r4, q4⟩ := rd44 h4 w4
  obtain ⟨k5, e5, _⟩ := trd_int un3 h5
  rw [cells3] at e0 e2 e5; rw [cells34] at r1; rw [cells44] at r3 r4
  refine ⟨⟨k0, a, k2, t3, t4, k5⟩, ?_, ⟨q1, q3, q4⟩, b1⟩
  have : RL ((Gh0 w).wz w) ([.sc (.int .i64 k0)] ++ (cA a ++ ([.sc (.int .i64 k2)] ++ (cT t3 ++ (cT t4 ++ [.sc (.int .i64 k5)]))))) (cs.drop 0) := by
    refine RL_step 0 1 (by rw [e0]; exact RL_sc [_]) (RL_step 1 3 r1 (RL_step 4 1 (by rw [e2]; exact RL_sc [_]) (RL_step 5 4 r3 (RL_step 9 4 r4 (RL_last 13 1 (by omega) (by rw [e5]; exact RL_sc [_]))))))
  exact this
theorem rd35 (h : trd enc w fuel 35 cs = some (d, ps)) (hw : Wt 35 d) : ∃ (v : Value) (l : List Lt), cs = [v] ∧ R ((Gh0 w).wz w) (vL l) v ∧ (∀ x ∈ l, termsR x ∧ x.atom.args.length * 40 ≤ reachBytes) ∧ l.length * 152 ≤ reachBytes := by
  obtain ⟨v, l, h1, h2, h3, h4⟩ := trd_slice (g := cL) (es := 14) (fun _ => rfl) (by decide) (ty_slice (P := prg) (E := E0) TT_ok rfl) cells46 (Q := fun x => termsR x ∧ x.atom.args.length * 40 ≤ reachBytes) (fun _ _ _ _ h hw => rd46 h hw) h hw
  rw [bytes46] at h4
  exact ⟨v, l, h1, h2, h3, h4⟩
theorem rd37 (h : trd enc w fuel 37 cs = some (d, ps)) (hw : Wt 37 d) : ∃ c : Cl, RL ((Gh0 w).wz w) (cC c) cs ∧ clauseR c ∧ SzC c := by
  obtain ⟨hl, hf⟩ := trd_struct (fs := [(0, 34), (3, 35)]) rfl h hw
  rw [cells37] at hl
  obtain ⟨_, _, _, h0, w0⟩ := hf 0 0 34 rfl
  obtain ⟨_, _, _, h1, w1⟩ := hf 1 3 35 rfl
  obtain ⟨a, r0, q0, b0⟩ := rd34 h0 w0
  obtain ⟨v, l, e1, r1, q1, b1⟩ := rd35 h1 w1
  rw [cells35] at e1; rw [cells34] at r0
  refine ⟨⟨a, l⟩, ?_, ⟨q0, fun x hx => (q1 x hx).1⟩, ⟨Nat.le_trans b0 reach_le, Nat.le_trans b1 reach_le, fun x hx => Nat.le_trans (q1 x hx).2 reach_le⟩⟩
  have : RL ((Gh0 w).wz w) (cA a ++ [vL l]) (cs.drop 0) := by
    refine RL_step 0 3 r0 (RL_last 3 1 (by omega) (by rw [e1]; exact RL_cons.2 ⟨r1, RL_nil⟩))
  exact this
theorem rd22 (h : trd enc w fuel 22 cs = some (d, ps)) (hw : Wt 22 d) : ∃ (v : Value) (l : List Cl), cs = [v] ∧ R ((Gh0 w).wz w) (vC l) v ∧ (∀ x ∈ l, clauseR x ∧ SzC x) ∧ l.length * 72 ≤ reachBytes := by
  obtain ⟨v, l, h1, h2, h3, h4⟩ := trd_slice (g := cC) (es := 4) (fun _ => rfl) (by decide) (ty_slice (P := prg) (E := E0) TT_ok rfl) cells37 (Q := fun x => clauseR x ∧ SzC x) (fun _ _ _ _ h hw => rd37 h hw) h hw
  rw [bytes37] at h4
  exact ⟨v, l, h1, h2, h3, h4⟩
theorem rd24 (h : trd enc w fuel 24 cs = some (d, ps)) (hw : Wt 24 d) : ∃ (v : Value) (p : List Cl), cs = [v] ∧ R ((Gh0 w).wz w) (vC p) v ∧ (∀ x ∈ p, clauseR x ∧ SzC x) ∧ p.length * 72 ≤ reachBytes := by
  obtain ⟨hl, hf⟩ := trd_struct (fs := [(0, 22)]) rfl h hw
  rw [cells24] at hl
  obtain ⟨_, _, _, h0, w0⟩ := hf 0 0 22 rfl
  obtain ⟨v, l, e, r, q, b⟩ := rd22 h0 w0
  rw [cells22, List.drop_zero, List.take_of_length_le (by omega)] at e
  exact ⟨v, l, e, r, q, b⟩
end
end Go.Proofs.YtjchgncgkhofhaaGreat.AL
/- From a call's answer in abstract words to the row: a law over a program that answers true. -/
set_option linter.unusedVariables false
namespace Go.Proofs.YtjchgncgkhofhaaGreat.AL
open Go Go.ChangeShapes Go.WideShapes Go.ChangeAt Go.RowKit
theorem ownN : ownKnob prg.godebug = none := by kernel_rfl
theorem laidP : laidOutB prg = true := by kernel_rfl
theorem un4 : prg.underlying 4 = some .bool := by kernel_rfl
theorem un24 : ∃ fs, prg.underlying 24 = some (.struct fs) := by
  obtain ⟨Fs, h, _⟩ := ty_struct (P := prg) (E := E0) TT_ok (t := 24) (fs := [(0, 22)]) rfl
  exact ⟨Fs, h⟩
/-- What a law over one program answers: true, and all that lies in memory stays. -/
theorem law_calls {g : FuncId} {p : List Cl} (h : POk g [aP p] (.sc (.bool true))) {W : World} {v : Value} (hv : R ((Gh0 W).wz W) (aP p) v) :
    Calls prg g #[v] W fun e W' => e = .returned (.bool true) ∧ Below W.heap.size W W' := by
  have hr : HRel (deadM []) (argF [aP p]) (argV [v]) W (fun _ => 0) (Gh0 W) (fun _ => none) := by
    have hsl : ∀ t, RS ((Gh0 W).wz W) (deadM []).bx (fun _ => 0) (argF [aP p] t) (argV [v] t) := by
      intro t
      cases t with
      | zero => exact RS_of_R hv
      | succ t => simp [argF, RS, R]
    have hlk : ∀ l, look (deadM []) l = .dead := by
      intro l
      cases l with
      | loc d => rfl
      | obj i => simp [look, deadM]
    refine ⟨hsl, ?_, ?_, ?_, fun b o hz => hz, fun b hb => ⟨hb, rfl⟩, fun i v b h => h.elim, fun i v b b' h => h.elim⟩
    · intro l hl
      rw [hlk] at hl; exact hl.elim
    · intro t
      refine VOk_plain ?_
      cases t with
      | zero => simp [argF, aP, notFl]
      | succ t => simp [argF, notFl]
    · intro l ver cs b vs T j x v hl
      rw [hlk] at hl; cases hl
  refine (h.2 W (Gh0 W) (fun _ => none) (fun _ => 0) [v] rfl hr).mono fun e W' ⟨v', av, gs', G', ow', L', h1, ⟨_, h2⟩, h3, h4⟩ => ?_
  subst h2
  have h5 := h3.sl 0
  refine ⟨?_, ⟨h4.os, h4.tape, h4.output, h4.size, fun k hk => h4.keep k hk⟩⟩
  have h6 : v' = .bool true := RS_sc h5
  rw [h1, h6]
set_option maxRecDepth 100000 in
theorem law_lifted {g : FuncId} {fn : Func} (hfn : prg.funcs[g]? = some fn) (hpar : fn.params = #[24]) (hrt : fn.resultTypes = #[4]) (hni : prg.inits.idxOf? g = none) (s : ChangeSpec) (hvars : s.vars = [])
    (hs : ∀ (H : Type) (d : DataW H), s.fn H [d] = { results := [.lit (.bool true)], args := [d] })
    (hwit : ∀ (os : Os) (started : os.Started) (H : Type) (enc : TypeId × Value → H), ∃ (w : World) (tape : Tape) (i : Input), w.os = os ∧ (w.forCall tape i).Shaped prg ∧ i.vars = [] ∧ Input.okWide prg (w.forCall tape i) .any w.heap.size g i ∧
      s.pre6 enc prg fn [] false (w.forCall tape i).memory i.args ∧ ({} : Assume).holds prg (lone (Frame.enter prg g i.args .normal) [] (w.forCall tape i)))
    (h : ∀ p : List Cl, (∀ x ∈ p, clauseR x ∧ SzC x) → p.length * 72 ≤ reachBytes → POk g [aP p] (.sc (.bool true)))
    (os : Os) (started : os.Started) (H : Type) (enc : TypeId × Value → H) :
    ReturnsInHanded {} Go.Proofs.Tryz.checked os g .any (s.pre6 enc prg fn [] false) (s.post enc prg fn false true false false) := by
  refine returnsInHanded_of_change_sized (C := Go.Proofs.Tryz.checked) ownN started hni hfn (hwit os started H enc) ?_
  intro W base args ds gs before hval hW _ hsz _
  have hW' := hW
  obtain ⟨p, q, hA, hV, rfl, _, _⟩ := hW
  rw [hpar] at hA hval hsz
  rw [hvars] at hV
  obtain ⟨v0, d0, rfl, rfl, h0⟩ := trodAll_one hA
  obtain ⟨rfl, rfl⟩ := trodVars_none hV
  have h0k := h0
  obtain ⟨fuel, hf⟩ := h0
  obtain ⟨fs, hu⟩ := un24
  obtain ⟨cs, rfl, _⟩ := okWide_struct hu (hval 0 24 v0 rfl rfl)
  have hwt : Wt 24 d0 := by
    intro x hx
    have := List.all_eq_true.1 hsz x (DataW.weights_mem_each (j := 0) (t := 24) (d := d0) (by simp) (by simp) x hx)
    simpa using this
  obtain ⟨v, pr, e, hR, hq, hl⟩ := rd24 (w := W) (enc := enc) hf hwt
  have ecs : cs = #[v] := by
    have : cs.toList = [v] := e
    exact Array.toList_inj.1 (by simpa using this)
  subst ecs
  simp only [List.append_nil] at hW'
  have hlt : ∀ x ∈ p, x.block < W.heap.size := fun x hx => by simpa using hW'.lt x hx
  refine (law_calls (h pr hq hl) (W := W) (v := .agg #[v]) ?_).mono fun e W' ⟨he, hb⟩ => ?_
  · simp only [aP, R]
    exact ⟨[v], rfl, RL_cons.2 ⟨hR, RL_nil⟩⟩
  · subst he
    refine ⟨_, rfl, [d0], [], p, [], p, [], hW', ?_, ?_, ?_, hb.frame _, fun h => by cases h⟩
    · rw [hrt, List.append_nil, hs]
      exact trodAll_mk1 (shut_bool un4 _)
    · rw [hpar, List.append_nil, hs]
      exact trodAll_mk1 (Below.trod laidP (by kernel_rfl) (of_decide_eq_true (by kernel_rfl)) h0k hb hlt)
    · rw [hvars, List.append_nil, hs]
      rfl
end Go.Proofs.YtjchgncgkhofhaaGreat.AL
/- The plain law, first part: verdicts over comparisons, and what holds of well formed literals. -/
set_option linter.unusedVariables false
namespace Go.Proofs.YtjchgncgkhofhaaGreat.AL
open Go
theorem term_num {t : Tm} (h : termP t = 0) (hk : t.kind = 4) : t.num = 0 := by
  unfold termP at h
  rw [if_pos hk] at h
  split at h
  · rename_i k; exact k.1
  · cases h
theorem lit_kind3 {l : Lt} (h : litP l = 0) (hk : l.kind = 3) : l.atom.pred = ⟨#[]⟩ ∧ l.atom.args = [] ∧ termP l.left = 0 ∧ termP l.right = 0 := by
  unfold litP at h
  rw [if_neg (by omega), if_pos hk] at h
  split at h
  · cases h
  · rename_i k
    have h1 := first_zero _ _ h
    refine ⟨?_, ?_, h1 _ (by simp), h1 _ (by simp)⟩
    · by_cases e : l.atom.pred = ⟨#[]⟩
      · exact e
      · exact absurd (.inr (.inr (.inl e))) k
    · cases e : l.atom.args with
      | nil => rfl
      | cons a r => exact absurd (.inr (.inr (.inr (by rw [e]; simp)))) k
theorem lit_kind12 {l : Lt} (h : litP l = 0) (hk : l.kind ≠ 3) : l.op = 0 ∧ (l.kind = 1 ∨ l.kind = 2) ∧ atomP l.atom = 0 := by
  unfold litP at h
  by_cases e : l.kind = 1 ∨ l.kind = 2
  · rw [if_pos e] at h
    split at h
    · cases h
    · rename_i k
      refine ⟨?_, e, h⟩
      by_cases e0 : l.op = 0
      · exact e0
      · exact absurd (.inl e0) k
  · rw [if_neg e, if_neg hk] at h; cases h
theorem verd_cmpd {l : Lt} (h : litP l = 0) : decide (verdP l > 0) = (cmpdP l).1 ∧ decide (verdP l < 0) = (cmpdP l).2 := by
  unfold verdP cmpdP
  by_cases hk : l.kind = 3
  · rw [if_pos hk, if_pos hk]
    obtain ⟨_, _, h1, h2⟩ := lit_kind3 h hk
    by_cases k1 : l.left.kind = 4
    · by_cases k2 : l.right.kind = 4
      · have n1 := term_num h1 k1
        have n2 := term_num h2 k2
        have e : (sidesP l).1 = (sameT l.left l.right && isVar l.left) := by
          unfold sidesP sameT anon isVar
          rw [if_pos ⟨k1, k2⟩]
          by_cases e3 : l.left.text = l.right.text <;> by_cases e4 : l.left.text = usB <;> simp [k1, k2, n1, n2, e3, e4]
        have e2 : (sidesP l).2 = false := by unfold sidesP; rw [if_pos ⟨k1, k2⟩]
        rw [← e, e2]
        by_cases e5 : (sidesP l).1 = true
        · rw [if_pos e5, if_pos e5]
          cases idleOp l.op <;> decide
        · rw [if_neg e5, if_neg e5]
          simp [isVar, k1]
      · have e : (sidesP l).1 = false ∧ (sidesP l).2 = false := by unfold sidesP; rw [if_neg (by omega)]; simp [k1]
        have e2 : (sameT l.left l.right && isVar l.left) = false := by
          unfold sameT; simp [isVar, k1]; omega
        rw [e.1, e.2, e2]
        simp [isVar, k1]
    · have e2 : (sameT l.left l.right && isVar l.left) = false := by simp [isVar, k1]
      have e : (sidesP l).1 = false ∧ (sidesP l).2 = !decide (l.right.kind = 4) := by unfold sidesP; rw [if_neg (by omega)]; simp [k1]
      rw [e.1, e.2, e2]
      by_cases k2 : l.right.kind = 4
      · simp [isVar, k1, k2]
      · cases (cmpP l.op l.left l.right).1 <;> simp [isVar, k1, k2]
  · rw [if_neg hk, if_neg hk]; decide
theorem fault_eq {ls : List Lt} {l : Lt} (h : litP l = 0) : faultR ls l = faultL ls l := by
  unfold faultR faultL
  rw [(verd_cmpd h).2]
theorem samePt_eq {l m : Lt} (hl : litP l = 0) (hm : litP m = 0) (n k : Nat) : samePt (partL l n) (partL m k) = alikeL l m := by
  unfold samePt alikeL partL
  simp only [thP_len]
  by_cases k1 : l.kind = 3
  · by_cases k2 : m.kind = 3
    · simp [k1, k2, (lit_kind3 hl k1).1, (lit_kind3 hm k2).1]
    · simp [k1, show ¬ (3 : Int) = m.kind by omega]
  · by_cases k2 : m.kind = 3
    · simp [k2, k1]
    · simp only [k1, k2, if_false, (lit_kind12 hl k1).1, (lit_kind12 hm k2).1]
      cases decide (l.kind = m.kind) <;> cases decide (l.atom.pred = m.atom.pred) <;> simp
end Go.Proofs.YtjchgncgkhofhaaGreat.AL
/- The plain law, second part: both searches for a covering say whether there is an assignment. -/
set_option linter.unusedVariables false
namespace Go.Proofs.YtjchgncgkhofhaaGreat.AL
open Go
/-! ### The reference's ways -/
def extW (τ : Th → Th) (w : Way) : Prop := ∀ x y, standsP w x = some y → τ x = y
def Fm (τ : Th → Th) (x y : Th) : Prop := if x.kind = 4 then τ x = y else x = y
def FL (τ : Th → Th) : List Th → List Th → Prop
  | x :: xs, y :: ys => Fm τ x y ∧ FL τ xs ys
  | _, _ => True
theorem stands_app (a b x : Th) : ∀ w : Way, standsP (w ++ [(a, b)]) x = match standsP w x with | some z => some z | none => if a = x then some b else none
  | [] => by simp [standsP]
  | p :: r => by
    simp only [List.cons_append, standsP]
    by_cases h : p.1 = x
    · simp [h]
    · simp only [if_neg h]; exact stands_app a b x r
theorem extW_app {τ : Th → Th} {w : Way} {a b : Th} (h : standsP w a = none) : extW τ (w ++ [(a, b)]) ↔ extW τ w ∧ τ a = b := by
  constructor
  · intro he
    refine ⟨fun x y hx => he x y (by rw [stands_app, hx]), he a b (by rw [stands_app, h]; simp)⟩
  · rintro ⟨h1, h2⟩ x y hx
    rw [stands_app] at hx
    cases hs : standsP w x with
    | some z => rw [hs] at hx; cases hx; exact h1 x y hs
    | none =>
      rw [hs] at hx
      simp only at hx
      split at hx
      · rename_i e; cases hx; rw [← e]; exact h2
      · cases hx
theorem fit_sem : ∀ (xs ys : List Th) (w : Way), (∀ w', fitL w xs ys = some w' → ∀ τ, extW τ w' ↔ extW τ w ∧ FL τ xs ys) ∧ (fitL w xs ys = none → ∀ τ, extW τ w → ¬ FL τ xs ys)
  | [], ys, w => by
    refine ⟨fun w' h τ => ?_, fun h => ?_⟩
    · simp only [fitL] at h; cases h; simp [FL]
    · simp [fitL] at h
  | x :: xs, [], w => by
    refine ⟨fun w' h τ => ?_, fun h => ?_⟩
    · simp only [fitL] at h; cases h; simp [FL]
    · simp [fitL] at h
  | x :: xs, y :: ys, w => by
    simp only [fitL, FL, Fm]
    by_cases hk : x.kind = 4
    · simp only [if_pos hk]
      cases hs : standsP w x with
      | some z =>
        simp only
        by_cases hz : z = y
        · simp only [if_pos hz]
          obtain ⟨h1, h2⟩ := fit_sem xs ys w
          refine ⟨fun w' h τ => ?_, fun h τ he hf => h2 h τ he hf.2⟩
          rw [h1 w' h τ]
          constructor
          · rintro ⟨e1, e2⟩; exact ⟨e1, (e1 x z hs).trans hz, e2⟩
          · rintro ⟨e1, _, e2⟩; exact ⟨e1, e2⟩
        · simp only [if_neg hz]
          exact ⟨fun w_ h => (by cases h), fun _ τ he hf => hz ((he x z hs).symm.trans hf.1)⟩
      | none =>
        simp only
        obtain ⟨h1, h2⟩ := fit_sem xs ys (w ++ [(x, y)])
        refine ⟨fun w' h τ => ?_, fun h τ he hf => h2 h τ ((extW_app hs).2 ⟨he, hf.1⟩) hf.2⟩
        rw [h1 w' h τ, extW_app hs, and_assoc]
    · simp only [if_neg hk]
      by_cases hxy : x = y
      · simp only [if_pos hxy]
        obtain ⟨h1, h2⟩ := fit_sem xs ys w
        refine ⟨fun w' h τ => ?_, fun h τ he hf => h2 h τ he hf.2⟩
        rw [h1 w' h τ]; simp [hxy]
      · simp only [if_neg hxy]
        exact ⟨fun w' h => (by cases h), fun _ τ he hf => hxy hf.1⟩
theorem fitP_some {w w' : Way} {a b : Pt} (h : fitP w a b = some w') (τ : Th → Th) : samePt a b = true ∧ (extW τ w' ↔ extW τ w ∧ FL τ a.things b.things) := by
  unfold fitP at h
  split at h
  · rename_i k; exact ⟨k, (fit_sem _ _ _).1 _ h τ⟩
  · cases h
theorem fitP_none {w : Way} {a b : Pt} (h : fitP w a b = none) (τ : Th → Th) (he : extW τ w) : ¬ (samePt a b = true ∧ FL τ a.things b.things) := by
  unfold fitP at h
  split at h
  · exact fun hh => (fit_sem _ _ _).2 h τ he hh.2
  · rename_i k; exact fun hh => k hh.1
theorem alike_ext {τ : Th → Th} {v w : Way} (h : alikeW v w = true) (he : extW τ w) : extW τ v := by
  simp only [alikeW, Bool.and_eq_true, List.all_eq_true, decide_eq_true_eq] at h
  have : ∀ (u : Way) (x y : Th), standsP u x = some y → (x, y) ∈ u := by
    intro u
    induction u with
    | nil => intro x y h; cases h
    | cons p r ih =>
      intro x y h
      simp only [standsP] at h
      split at h
      · rename_i e; cases h; rw [← e]; exact List.mem_cons_self ..
      · exact List.mem_cons_of_mem _ (ih x y h)
  intro x y hx
  exact he x y (h.2 _ (this v x y hx))
theorem join_ext {τ : Th → Th} {out : List Way} {w : Way} : (∃ v ∈ joinP out w, extW τ v) ↔ (∃ v ∈ out, extW τ v) ∨ extW τ w := by
  unfold joinP
  split
  · rename_i h
    rw [List.any_eq_true] at h
    obtain ⟨v, hv, ha⟩ := h
    exact ⟨.inl, fun h => h.elim id fun he => ⟨v, hv, alike_ext ha he⟩⟩
  · constructor
    · rintro ⟨v, hv, he⟩
      rcases List.mem_append.1 hv with h | h
      · exact .inl ⟨v, h, he⟩
      · rw [List.mem_singleton] at h; subst h; exact .inr he
    · rintro (⟨v, hv, he⟩ | he)
      · exact ⟨v, List.mem_append_left _ hv, he⟩
      · exact ⟨w, List.mem_append_right _ (List.mem_singleton.2 rfl), he⟩
theorem fits_ext {τ : Th → Th} {w : Way} {a : Pt} : ∀ (l : List Pt) (out : List Way), (∃ v ∈ fitsA w a out l, extW τ v) ↔ (∃ v ∈ out, extW τ v) ∨ (extW τ w ∧ ∃ b ∈ l, samePt a b = true ∧ FL τ a.things b.things)
  | [], out => by simp [fitsA]
  | b :: r, out => by
    simp only [fitsA]
    rw [fits_ext r]
    have : (∃ v ∈ stepF w a out b, extW τ v) ↔ (∃ v ∈ out, extW τ v) ∨ (extW τ w ∧ samePt a b = true ∧ FL τ a.things b.things) := by
      unfold stepF
      cases h : fitP w a b with
      | some v =>
        simp only
        have hs := fitP_some h τ
        rw [join_ext, hs.2]
        simp [hs.1]
      | none =>
        simp only
        constructor
        · exact .inl
        · rintro (h1 | ⟨h1, h2⟩)
          · exact h1
          · exact absurd h2 (fitP_none h τ h1)
    rw [this]
    constructor
    · rintro ((h | h) | ⟨h1, c, hc, h2⟩)
      · exact .inl h
      · exact .inr ⟨h.1, b, List.mem_cons_self .., h.2⟩
      · exact .inr ⟨h1, c, List.mem_cons_of_mem _ hc, h2⟩
    · rintro (h | ⟨h1, c, hc, h2⟩)
      · exact .inl (.inl h)
      · rcases List.mem_cons.1 hc with rfl | hc
        · exact .inl (.inr ⟨h1, h2⟩)
        · exact .inr ⟨h1, c, hc, h2⟩
theorem rest_mem (k : Nat) : ∀ (l : List Pt) (i : Nat) (p : Pt), i ≤ k → p ∈ l → p ∈ restP k l i ∨ l[k - i]? = some p
  | [], i, p, _, h => by cases h
  | q :: r, i, p, hi, h => by
    simp only [restP]
    by_cases e : i = k
    · rw [if_pos e]
      rcases List.mem_cons.1 h with rfl | h
      · right; simp [e]
      · left; rw [restP_past _ _ _ (by omega)]; exact h
    · rw [if_neg e]
      rcases List.mem_cons.1 h with rfl | h
      · left; exact List.mem_cons_self ..
      · rcases rest_mem k r (i + 1) p (by omega) h with h1 | h1
        · exact .inl (List.mem_cons_of_mem _ h1)
        · right
          rw [show k - i = (k - (i + 1)) + 1 by omega]
          simpa using h1
theorem reach_sem (body : List Pt) : ∀ (n : Nat) (w : Way) (l : List Pt), l.length = n → (reachP body n w l = true ↔ ∃ τ, extW τ w ∧ ∀ p ∈ l, ∃ b ∈ body, samePt p b = true ∧ FL τ p.things b.things)
  | 0, w, l, hl => by
    have : l = [] := List.eq_nil_of_length_eq_zero hl
    subst this
    simp only [reachP, true_iff]
    refine ⟨fun x => (standsP w x).getD zTh, fun x y h => by simp [h], by simp⟩
  | n + 1, w, l, hl => by
    simp only [reachP]
    obtain ⟨hp, hf⟩ := pickP_ok (fun p => fitsP w p body) l (by intro e; subst e; cases hl)
    generalize hP : pickP (fun p => fitsP w p body) l = P at hp hf ⊢
    have hrl := restP_len P.1 l 0 (Nat.zero_le _) (by omega)
    rw [List.any_eq_true, hf]
    constructor
    · rintro ⟨v, hv, hr⟩
      rw [reach_sem body n v _ (by omega)] at hr
      obtain ⟨τ, h1, h2⟩ := hr
      have h3 := (fits_ext body []).1 ⟨v, hv, h1⟩
      rcases h3 with ⟨_, h, _⟩ | ⟨h3, h4⟩
      · cases h
      · refine ⟨τ, h3, fun p hpl => ?_⟩
        rcases rest_mem P.1 l 0 p (Nat.zero_le _) hpl with h5 | h5
        · exact h2 p h5
        · rw [Nat.sub_zero, List.getElem?_eq_getElem hp] at h5
          cases h5; exact h4
    · rintro ⟨τ, h1, h2⟩
      obtain ⟨v, hv, he⟩ := (fits_ext (τ := τ) (w := w) (a := l[P.1]) body []).2 (.inr ⟨h1, h2 _ (List.getElem_mem hp)⟩)
      refine ⟨v, hv, ?_⟩
      rw [reach_sem body n v _ (by omega)]
      exact ⟨τ, he, fun p hp' => h2 p (restP_sub _ _ _ p hp')⟩
/-! ### The program's bindings -/
def extB (σ : ByteArray → Th) (s : BM) : Prop := ∀ k v, getB s k = some v → σ k = v
def Mt (σ : ByteArray → Th) (t : Tm) (x : Th) : Prop := if anon t = true then True else if isVar t = true then σ t.text = x else thingT t = x
def ML (σ : ByteArray → Th) : List Tm → List Th → Prop
  | t :: ts, x :: xs => Mt σ t x ∧ ML σ ts xs
  | _, _ => True
theorem getB_snoc (a : ByteArray) (b : Th) (x : ByteArray) : ∀ s : BM, getB (s ++ [(a, b)]) x = match getB s x with | some z => some z | none => if x = a then some b else none
  | [] => by simp [getB]
  | (k, v) :: r => by
    simp only [List.cons_append, getB]
    by_cases h : x = k
    · simp [h]
    · simp only [if_neg h]; exact getB_snoc a b x r
theorem extB_app {σ : ByteArray → Th} {s : BM} {a : ByteArray} {b : Th} (h : getB s a = none) : extB σ (s ++ [(a, b)]) ↔ extB σ s ∧ σ a = b := by
  constructor
  · intro he
    refine ⟨fun x y hx => he x y (by rw [getB_snoc, hx]), he a b (by rw [getB_snoc, h]; simp)⟩
  · rintro ⟨h1, h2⟩ x y hx
    rw [getB_snoc] at hx
    cases hs : getB s x with
    | some z => rw [hs] at hx; cases hx; exact h1 x y hs
    | none =>
      rw [hs] at hx
      simp only at hx
      split at hx
      · rename_i e; cases hx; rw [e]; exact h2
      · cases hx
theorem take_sem : ∀ (ts : List Tm) (xs : List Th) (s : BM) (fr : List ByteArray), ((takeP s ts xs fr).2.2 = true → ∀ σ, extB σ (takeP s ts xs fr).1 ↔ extB σ s ∧ ML σ ts xs) ∧ ((takeP s ts xs fr).2.2 = false → ∀ σ, extB σ s → ¬ ML σ ts xs)
  | [], xs, s, fr => by simp [takeP, ML]
  | t :: ts, [], s, fr => by simp [takeP, ML]
  | t :: ts, x :: xs, s, fr => by
    simp only [takeP, ML, Mt]
    by_cases ha : anon t = true
    · simp only [if_pos ha, true_and]
      exact take_sem ts xs s fr
    · simp only [if_neg ha]
      by_cases hv : isVar t = true
      · simp only [if_pos hv]
        cases hs : getB s t.text with
        | none =>
          simp only
          obtain ⟨h1, h2⟩ := take_sem ts xs (s ++ [(t.text, x)]) (fr ++ [t.text])
          refine ⟨fun h σ => ?_, fun h σ he hf => h2 h σ ((extB_app hs).2 ⟨he, hf.1⟩) hf.2⟩
          rw [h1 h σ, extB_app hs, and_assoc]
        | some y =>
          simp only
          by_cases hy : y = x
          · simp only [if_pos hy]
            obtain ⟨h1, h2⟩ := take_sem ts xs s fr
            refine ⟨fun h σ => ?_, fun h σ he hf => h2 h σ he hf.2⟩
            rw [h1 h σ]
            constructor
            · rintro ⟨e1, e2⟩; exact ⟨e1, (e1 _ _ hs).trans hy, e2⟩
            · rintro ⟨e1, _, e2⟩; exact ⟨e1, e2⟩
          · simp only [if_neg hy]
            exact ⟨fun h => (by cases h), fun _ σ he hf => hy ((he _ _ hs).symm.trans hf.1)⟩
      · simp only [if_neg hv]
        by_cases hx : thingT t = x
        · simp only [if_pos hx]
          obtain ⟨h1, h2⟩ := take_sem ts xs s fr
          refine ⟨fun h σ => ?_, fun h σ he hf => h2 h σ he hf.2⟩
          rw [h1 h σ]; simp [hx]
        · simp only [if_neg hx]
          exact ⟨fun h => (by cases h), fun _ σ he hf => hx hf.1⟩
theorem place_sem (z : List (Lt × List Th)) : ∀ (l : List Lt) (s : BM), placeP z l s = true ↔ ∃ σ, extB σ s ∧ ∀ x ∈ l, ∃ p ∈ z, alikeL x p.1 = true ∧ ML σ (termsL x) p.2
  | [], s => by
    simp only [placeP, true_iff]
    exact ⟨fun k => (getB s k).getD zTh, fun x y h => by simp [h], by simp⟩
  | x :: r, s => by
    simp only [placeP, List.any_eq_true, Bool.and_eq_true]
    constructor
    · rintro ⟨p, hp, h1, h2, h3⟩
      rw [place_sem z r] at h3
      obtain ⟨σ, h4, h5⟩ := h3
      rw [(take_sem _ _ _ _).1 h2 σ] at h4
      refine ⟨σ, h4.1, fun y hy => ?_⟩
      rcases List.mem_cons.1 hy with rfl | hy
      · exact ⟨p, hp, h1, h4.2⟩
      · exact h5 y hy
    · rintro ⟨σ, h1, h2⟩
      obtain ⟨p, hp, h3, h4⟩ := h2 x (List.mem_cons_self ..)
      have h5 : (takeP s (termsL x) p.2 []).2.2 = true := by
        cases h : (takeP s (termsL x) p.2 []).2.2 with
        | true => rfl
        | false => exact absurd h4 ((take_sem _ _ _ _).2 h σ h1)
      refine ⟨p, hp, h3, h5, ?_⟩
      rw [place_sem z r]
      exact ⟨σ, ((take_sem _ _ _ _).1 h5 σ).2 ⟨h1, h4⟩, fun y hy => h2 y (List.mem_cons_of_mem _ hy)⟩
end Go.Proofs.YtjchgncgkhofhaaGreat.AL
/- The plain law, third part: the reference's covering is the program's. -/
set_option linter.unusedVariables false
namespace Go.Proofs.YtjchgncgkhofhaaGreat.AL
open Go
theorem FL_congr {τ τ' : Th → Th} : ∀ (xs ys : List Th), (∀ x ∈ xs, τ x = τ' x) → FL τ xs ys → FL τ' xs ys
  | [], _, _, _ => by simp [FL]
  | _ :: _, [], _, _ => by simp [FL]
  | x :: xs, y :: ys, h, hf => by
    simp only [FL, Fm] at hf ⊢
    rw [← h x (List.mem_cons_self ..)]
    exact ⟨hf.1, FL_congr xs ys (fun u hu => h u (List.mem_cons_of_mem _ hu)) hf.2⟩
/-- From the program's assignment to the reference's: own numbers are free. -/
def mkT (σ : ByteArray → Th) (α : Nat → Th) (x : Th) : Th := if x.own > 0 then α x.own.toNat else σ x.text
theorem th_own : ∀ (ts : List Tm) (n : Nat), ∀ x ∈ thP ts n, x.own = 0 ∨ ((n : Int) < x.own ∧ x.own ≤ (thN ts n : Nat))
  | [], n, x, h => by cases h
  | t :: ts, n, x, h => by
    simp only [thP, thN] at h ⊢
    by_cases ha : anon t = true
    · rw [if_pos ha] at h ⊢
      rcases List.mem_cons.1 h with rfl | h
      · right
        have := (thN_le ts (n + 1)).1
        constructor
        · show (n : Int) < ((n + 1 : Nat) : Int); omega
        · show ((n + 1 : Nat) : Int) ≤ _; omega
      · rcases th_own ts (n + 1) x h with h | h
        · exact .inl h
        · exact .inr ⟨by omega, h.2⟩
    · rw [if_neg ha] at h ⊢
      rcases List.mem_cons.1 h with rfl | h
      · exact .inl rfl
      · exact th_own ts n x h
theorem mk_agree {σ : ByteArray → Th} {α β : Nat → Th} {xs : List Th} (h : ∀ x ∈ xs, x.own > 0 → α x.own.toNat = β x.own.toNat) : ∀ x ∈ xs, mkT σ α x = mkT σ β x := by
  intro x hx
  unfold mkT
  split
  · rename_i k; exact h x hx k
  · rfl
theorem up_list (σ : ByteArray → Th) : ∀ (ts : List Tm) (ys : List Th) (n : Nat), ML σ ts ys → ∃ α, FL (mkT σ α) (thP ts n) ys
  | [], ys, n, _ => ⟨fun _ => zTh, by simp [thP, FL]⟩
  | t :: ts, [], n, _ => ⟨fun _ => zTh, by cases h : thP (t :: ts) n <;> simp [FL]⟩
  | t :: ts, y :: ys, n, h => by
    simp only [ML, Mt] at h
    simp only [thP]
    by_cases ha : anon t = true
    · simp only [if_pos ha] at h ⊢
      obtain ⟨α, hα⟩ := up_list σ ts ys (n + 1) h.2
      refine ⟨fun k => if k = n + 1 then y else α k, ?_⟩
      simp only [FL]
      refine ⟨?_, FL_congr _ _ (mk_agree fun x hx hp => ?_) hα⟩
      · have hk : t.kind = 4 := by
          unfold anon isVar at ha; simp at ha; exact ha.1
        simp only [Fm, hk, if_true]
        unfold mkT
        rw [if_pos (by show ((n + 1 : Nat) : Int) > 0; omega)]
        exact if_pos (by show ((n + 1 : Nat) : Int).toNat = n + 1; omega)
      · have := th_own ts (n + 1) x hx
        rw [if_neg]
        omega
    · simp only [if_neg ha] at h ⊢
      obtain ⟨α, hα⟩ := up_list σ ts ys n h.2
      refine ⟨α, ?_⟩
      simp only [FL]
      refine ⟨?_, hα⟩
      have h1 := h.1
      unfold isVar at h1
      simp only [Fm]
      by_cases hk : t.kind = 4
      · simp only [hk, decide_true, if_true] at h1 ⊢
        unfold mkT
        rw [if_neg (by show ¬ (0 : Int) > 0; omega)]
        exact h1
      · rw [if_neg (by simp [hk])] at h1
        rw [if_neg hk]
        exact h1
theorem up_body (σ : ByteArray → Th) (B : List Pt) : ∀ (ls : List Lt) (n : Nat), (∀ l ∈ ls, ∃ q ∈ B, (∀ k, samePt (partL l k) q = true) ∧ ML σ (termsL l) q.things) → ∃ α, ∀ p ∈ flatB ls n, ∃ q ∈ B, samePt p q = true ∧ FL (mkT σ α) p.things q.things
  | [], n, _ => ⟨fun _ => zTh, by simp [flatB]⟩
  | l :: ls, n, h => by
    obtain ⟨α2, h2⟩ := up_body σ B ls (thN (termsL l) n) fun x hx => h x (List.mem_cons_of_mem _ hx)
    obtain ⟨q, hq, hs, hm⟩ := h l (List.mem_cons_self ..)
    obtain ⟨α1, h1⟩ := up_list σ _ _ n hm
    refine ⟨fun k => if k ≤ thN (termsL l) n then α1 k else α2 k, fun p hp => ?_⟩
    simp only [flatB] at hp
    rcases List.mem_cons.1 hp with rfl | hp
    · refine ⟨q, hq, hs n, FL_congr _ _ (mk_agree fun x hx hpos => ?_) h1⟩
      have := th_own (termsL l) n x hx
      rw [if_pos (by omega)]
    · obtain ⟨q', hq', hs', hf'⟩ := h2 p hp
      refine ⟨q', hq', hs', FL_congr _ _ (mk_agree fun x hx hpos => ?_) hf'⟩
      have : ∀ (ls : List Lt) (m : Nat), ∀ p ∈ flatB ls m, ∀ x ∈ p.things, x.own = 0 ∨ (m : Int) < x.own := by
        intro ls
        induction ls with
        | nil => intro m p hp; cases hp
        | cons l ls ih =>
          intro m p hp x hx
          simp only [flatB] at hp
          rcases List.mem_cons.1 hp with rfl | hp
          · have := th_own (termsL l) m x hx; omega
          · have h1 := ih _ p hp x hx
            have h2 := (thN_le (termsL l) m).1
            omega
      have := this ls _ p hp x hx
      rw [if_neg (by omega)]
theorem down_list (τ : Th → Th) : ∀ (ts : List Tm) (ys : List Th) (n : Nat), (∀ t ∈ ts, termP t = 0) → FL τ (thP ts n) ys → ML (fun s => τ ⟨4, 0, s, 0⟩) ts ys
  | [], ys, n, _, _ => by simp [ML]
  | t :: ts, [], n, _, _ => by simp [ML]
  | t :: ts, y :: ys, n, ht, h => by
    simp only [ML, Mt]
    simp only [thP] at h
    by_cases ha : anon t = true
    · simp only [if_pos ha, FL] at h ⊢
      exact ⟨trivial, down_list τ ts ys (n + 1) (fun u hu => ht u (List.mem_cons_of_mem _ hu)) h.2⟩
    · simp only [if_neg ha, FL, Fm] at h ⊢
      refine ⟨?_, down_list τ ts ys n (fun u hu => ht u (List.mem_cons_of_mem _ hu)) h.2⟩
      have h1 := h.1
      unfold isVar
      by_cases hk : t.kind = 4
      · have hn := term_num (ht t (List.mem_cons_self ..)) hk
        simp only [hk, hn, decide_true, if_true] at h1 ⊢
        exact h1
      · rw [if_neg (by simp [hk])]
        rw [if_neg hk] at h1
        exact h1
theorem flat_mem : ∀ (ls : List Lt) (m : Nat), (∀ q ∈ flatB ls m, ∃ p ∈ ls.zip (btP ls m), ∃ k, q = partL p.1 k ∧ p.2 = q.things) ∧ ∀ p ∈ ls.zip (btP ls m), ∃ k, partL p.1 k ∈ flatB ls m ∧ p.2 = (partL p.1 k).things
  | [], m => by simp [flatB, btP]
  | l :: ls, m => by
    obtain ⟨h1, h2⟩ := flat_mem ls (thN (termsL l) m)
    simp only [flatB, btP, List.zip_cons_cons]
    constructor
    · intro q hq
      rcases List.mem_cons.1 hq with rfl | hq
      · exact ⟨_, List.mem_cons_self .., m, rfl, rfl⟩
      · obtain ⟨p, hp, h⟩ := h1 q hq
        exact ⟨p, List.mem_cons_of_mem _ hp, h⟩
    · intro p hp
      rcases List.mem_cons.1 hp with rfl | hp
      · exact ⟨m, List.mem_cons_self .., rfl⟩
      · obtain ⟨k, hk, h⟩ := h2 p hp
        exact ⟨k, List.mem_cons_of_mem _ hk, h⟩
theorem flat_part : ∀ (ls : List Lt) (n : Nat), (∀ p ∈ flatB ls n, ∃ l ∈ ls, ∃ k, p = partL l k) ∧ ∀ l ∈ ls, ∃ k, partL l k ∈ flatB ls n
  | [], n => by simp [flatB]
  | l :: ls, n => by
    obtain ⟨h1, h2⟩ := flat_part ls (thN (termsL l) n)
    simp only [flatB]
    constructor
    · intro p hp
      rcases List.mem_cons.1 hp with rfl | hp
      · exact ⟨l, List.mem_cons_self .., n, rfl⟩
      · obtain ⟨x, hx, h⟩ := h1 p hp
        exact ⟨x, List.mem_cons_of_mem _ hx, h⟩
    · intro x hx
      rcases List.mem_cons.1 hx with rfl | hx
      · exact ⟨n, List.mem_cons_self ..⟩
      · obtain ⟨k, h⟩ := h2 x hx
        exact ⟨k, List.mem_cons_of_mem _ h⟩
theorem cov_eq {a b : Cl} (ha : Gd a) (hb : Gd b) : covP a b = covL a b := by
  have ta := (atom_zero (clause_zero ha.1).1).2.2
  have la := (clause_zero ha.1).2.2
  have lb := (clause_zero hb.1).2.2
  have hR : covP a b = true ↔ a.body.length ≤ 6 ∧ a.head.pred = b.head.pred ∧ a.head.args.length = b.head.args.length ∧ ∃ τ, FL τ (thP a.head.args 0) (thP b.head.args 0) ∧ ∀ p ∈ bodyP a, ∃ q ∈ bodyP b, samePt p q = true ∧ FL τ p.things q.things := by
    unfold covP
    simp only [Bool.and_eq_true, decide_eq_true_eq]
    refine and_congr_right fun _ => ?_
    have hs : samePt (headP a) (headP b) = true ↔ a.head.pred = b.head.pred ∧ a.head.args.length = b.head.args.length := by
      simp only [samePt, headP, thP_len, Bool.and_eq_true, decide_eq_true_eq, true_and, and_true]
      exact ⟨fun h => ⟨of_decide_eq_true h.1, h.2⟩, fun h => ⟨decide_eq_true h.1, h.2⟩⟩
    cases h : fitP [] (headP a) (headP b) with
    | some w =>
      simp only
      rw [reach_sem (bodyP b) _ w (bodyP a) rfl]
      have hp := fun τ => fitP_some h τ
      have hs1 := hs.1 (hp fun x => x).1
      refine ⟨fun ⟨τ, h1, h2⟩ => ⟨hs1.1, hs1.2, τ, (((hp τ).2).1 h1).2, h2⟩, fun ⟨_, _, τ, h1, h2⟩ => ⟨τ, ((hp τ).2).2 ⟨fun x y hx => (by cases hx), h1⟩, h2⟩⟩
    | none =>
      simp only
      refine ⟨fun h => (by cases h), fun ⟨h1, h2, τ, h3, h4⟩ => ?_⟩
      exact absurd ⟨hs.2 ⟨h1, h2⟩, h3⟩ (fitP_none h τ fun x y hx => (by cases hx))
  have hL : covL a b = true ↔ a.body.length ≤ 6 ∧ a.head.pred = b.head.pred ∧ a.head.args.length = b.head.args.length ∧ ∃ σ, ML σ a.head.args (thP b.head.args 0) ∧ ∀ x ∈ a.body, ∃ p ∈ b.body.zip (btP b.body (thN b.head.args 0)), alikeL x p.1 = true ∧ ML σ (termsL x) p.2 := by
    unfold covL
    simp only [Bool.and_eq_true, decide_eq_true_eq]
    refine and_congr_right fun _ => and_congr_right fun _ => and_congr_right fun _ => ?_
    have e0 : ∀ σ, extB σ [] := fun σ k v h => by cases h
    rw [place_sem]
    constructor
    · rintro ⟨h1, σ, h2, h3⟩
      exact ⟨σ, (((take_sem _ _ _ _).1 h1 σ).1 h2).2, h3⟩
    · rintro ⟨σ, h1, h2⟩
      have h5 : (takeP [] a.head.args (thP b.head.args 0) []).2.2 = true := by
        cases h : (takeP [] a.head.args (thP b.head.args 0) []).2.2 with
        | true => rfl
        | false => exact absurd h1 ((take_sem _ _ _ _).2 h σ (e0 σ))
      exact ⟨h5, σ, ((take_sem _ _ _ _).1 h5 σ).2 ⟨e0 σ, h1⟩, h2⟩
  rw [Bool.eq_iff_iff, hR, hL]
  refine and_congr_right fun _ => and_congr_right fun _ => and_congr_right fun _ => ?_
  constructor
  · rintro ⟨τ, h1, h2⟩
    refine ⟨fun s => τ ⟨4, 0, s, 0⟩, down_list τ _ _ 0 ta h1, fun l hl => ?_⟩
    obtain ⟨k, hk⟩ := (flat_part a.body (thN a.head.args 0)).2 l hl
    obtain ⟨q, hq, hs, hf⟩ := h2 _ hk
    obtain ⟨p, hp, k', he, ht⟩ := (flat_mem b.body (thN b.head.args 0)).1 q hq
    refine ⟨p, hp, ?_, ?_⟩
    · rw [he, samePt_eq (la l hl) (lb p.1 (List.of_mem_zip hp).1)] at hs; exact hs
    · rw [ht]; exact down_list τ _ _ k (lit_terms (la l hl)) hf
  · rintro ⟨σ, h1, h2⟩
    obtain ⟨α1, hα1⟩ := up_list σ _ _ 0 h1
    obtain ⟨α2, hα2⟩ := up_body σ (bodyP b) a.body (thN a.head.args 0) fun l hl => by
      obtain ⟨p, hp, hs, hm⟩ := h2 l hl
      obtain ⟨k, hk, ht⟩ := (flat_mem b.body (thN b.head.args 0)).2 p hp
      exact ⟨_, hk, fun k' => by rw [samePt_eq (la l hl) (lb p.1 (List.of_mem_zip hp).1)]; exact hs, by rw [← ht]; exact hm⟩
    refine ⟨mkT σ fun k => if k ≤ thN a.head.args 0 then α1 k else α2 k, FL_congr _ _ (mk_agree fun x hx hpos => ?_) hα1, fun p hp => ?_⟩
    · have := th_own a.head.args 0 x hx
      rw [if_pos (by omega)]
    · obtain ⟨q, hq, hs, hf⟩ := hα2 p hp
      refine ⟨q, hq, hs, FL_congr _ _ (mk_agree fun x hx hpos => ?_) hf⟩
      have : ∀ (ls : List Lt) (m : Nat), ∀ p ∈ flatB ls m, ∀ x ∈ p.things, x.own = 0 ∨ (m : Int) < x.own := by
        intro ls
        induction ls with
        | nil => intro m p hp; cases hp
        | cons l ls ih =>
          intro m p hp x hx
          simp only [flatB] at hp
          rcases List.mem_cons.1 hp with rfl | hp
          · have := th_own (termsL l) m x hx; omega
          · have h1 := ih _ p hp x hx
            have h2 := (thN_le (termsL l) m).1
            omega
      have := this a.body _ p hp x hx
      rw [if_neg (by omega)]
end Go.Proofs.YtjchgncgkhofhaaGreat.AL
