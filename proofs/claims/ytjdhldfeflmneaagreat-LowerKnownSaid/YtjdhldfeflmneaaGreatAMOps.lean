/-
  The operations in the abstract memory tell what the model's operations do: reading, writing, new blocks.
-/
import Derived.Test.YtjdhldfeflmneaaGreatAMRel
set_option linter.unusedSimpArgs false
set_option linter.unusedVariables false
namespace Go.Proofs.YtjdhldfeflmneaaGreat.AM
open Go.RowKit

/-- The model's operation goes through, and comes to something that the abstract one takes. -/
def Sim (P : Program) (W : World) (ι : Env) (s : Sem Value) (w : World) (K : Value → H → Prop) : Prop :=
  ∃ cv w' ι' v h', s.run P w = .ok cv w' ∧ Env.le ι ι' ∧ HRel P W ι' h' w' ∧ VRel ι' v cv ∧ K v h'
def SimU (P : Program) (W : World) (ι : Env) (s : Sem Unit) (w : World) (K : H → Prop) : Prop :=
  ∃ w' ι' h', s.run P w = .ok () w' ∧ Env.le ι ι' ∧ HRel P W ι' h' w' ∧ K h'

section
variable {P : Program} {W : World} {ι : Env} {h : H} {w : World}

theorem Sim.quiet {s : Sem Value} {K : Value → H → Prop} {cv v : Value} (hr : HRel P W ι h w) (hs : s.run P w = .ok cv w) (hv : VRel ι v cv) (hk : K v h) : Sim P W ι s w K :=
  ⟨cv, w, ι, v, h, hs, Env.le_refl _, hr, hv, hk⟩

theorem add_none (b o j : Nat) : (⟨b, o, none⟩ : Addr).add j = ⟨b, o + j, none⟩ := by
  unfold Addr.add
  split
  · subst_vars; rfl
  · rfl

theorem pureRun_run {α : Type} (s : Sem α) : ∀ {v : α}, pureRun P s = some v → ∀ w, s.run P w = .ok v w := by
  induction s with
  | pure a => intro v hv w; simp [pureRun] at hv; subst hv; rfl
  | program k ih => intro v hv w; simp only [pureRun] at hv; simp only [Sem.run]; exact ih P hv w
  | _ => intro v hv; simp [pureRun] at hv

theorem run_info {t : TypeId} {i : TypeInfo} (hi : P.info? t = some i) (w : World) : (typeInfo t).run P w = .ok i w := by simp [typeInfo, hi]
theorem run_size {t : TypeId} {i : TypeInfo} (hi : P.info? t = some i) (w : World) : (sizeOf t).run P w = .ok i.size w := by simp [sizeOf, run_info hi]
theorem run_und {t : TypeId} {d : TypeDesc} (hd : P.underlying t = some d) (w : World) : (underlying t).run P w = .ok d w := by simp [underlying, hd]
theorem zeroOf_spec {t : TypeId} {z : Value} (hz : zeroOf P t = some z) : selfA z = true ∧ (P.info? t).bind (·.zero) = some z := by
  unfold zeroOf at hz
  split at hz
  · split at hz
    · rename_i h; cases hz; exact ⟨h, ‹_›⟩
    · cases hz
  · cases hz
theorem run_zero {t : TypeId} {z : Value} (hz : zeroOf P t = some z) (w : World) : (zeroValue t).run P w = .ok z w := by
  have := (zeroOf_spec hz).2
  cases hi : P.info? t with
  | none => rw [hi] at this; cases this
  | some i =>
    rw [hi] at this
    simp only [Option.bind_some] at this
    simp [zeroValue, run_info hi, this]
theorem tySize_spec {t : TypeId} {ag : Bool} {n : Nat} (ht : tySize P t = some (ag, n)) : ∃ i, P.info? t = some i ∧ i.size = n ∧ ∀ w, (isAgg t).run P w = .ok ag w := by
  unfold tySize at ht
  split at ht
  · cases ht; rename_i i fs hi hu; exact ⟨i, hi, rfl, fun w => by simp [isAgg, run_und hu]⟩
  · cases ht; rename_i i a e hi hu; exact ⟨i, hi, rfl, fun w => by simp [isAgg, run_und hu]⟩
  · rename_i i d h1 h2 hi hu
    cases ht; refine ⟨i, hi, rfl, fun w => ?_⟩
    simp only [isAgg, Sem.run_bind, run_und hu, Result.andThen_ok]
    first
      | rfl
      | (split
         · exact absurd rfl (h1 _)
         · exact absurd rfl (h2 _ _)
         · rfl)
  · cases ht

/-! ### Reading cells -/
theorem HRel.obj' (hr : HRel P W ι h w) {b : Nat} {o : AObj} {l : Loc} (hb : h b = some o) (hl : ι b = some l) : ORel P W.heap.size ι l w o := by
  obtain ⟨l', hl', ho⟩ := hr.obj b o hb
  rw [hl] at hl'; cases hl'; exact ho
theorem read_cell (hr : HRel P W ι h w) {b o : Nat} {v : Value} (hc : cellAt h b o = some v) {l : Loc} (hl : ι b = some l) :
    ∃ v', w.cell? ⟨l.b, l.o + o, none⟩ = some v' ∧ CRel ι v v' := by
  unfold cellAt at hc
  split at hc
  · rename_i cs E m hb
    obtain ⟨ccs, CE, lo, hi, h1, h2, _⟩ := hr.obj' hb hl
    obtain ⟨v', h3, h4⟩ := h2 _ _ hc
    exact ⟨v', by simp [World.cell?, h1, h3], h4⟩
  · cases hc
theorem list_build {α β : Type} {R : α → β → Prop} (l : List α) (f : Nat → Option β) : (∀ (i : Nat) (a : α), l[i]? = some a → ∃ b, f i = some b ∧ R a b) →
    ∃ m : List β, All2 R l m ∧ ∀ (i : Nat) (b : β), m[i]? = some b → f i = some b := by
  induction l generalizing f with
  | nil => intro _; exact ⟨[], .nil, fun i b hb => by simp at hb⟩
  | cons x l ih =>
    intro hl
    obtain ⟨b, hb, hr⟩ := hl 0 x rfl
    obtain ⟨m, h1, h2⟩ := ih (fun i => f (i + 1)) (fun i a ha => hl (i + 1) a (by simpa using ha))
    refine ⟨b :: m, .cons hr h1, fun i c hc => ?_⟩
    cases i with
    | zero => simp at hc; subst hc; exact hb
    | succ i => exact h2 i c (by simpa using hc)
theorem read_cells (hr : HRel P W ι h w) {b o n : Nat} {vs : List Value} (hc : cellsAt h b o n = some vs) {l : Loc} (hl : ι b = some l) :
    ∃ vs' : List Value, All2 (CRel ι) vs vs' ∧ vs.length = n ∧ ∀ (j : Nat) (u : Value), vs'[j]? = some u → w.cell? ((⟨l.b, l.o + o, none⟩ : Addr).add j) = some u := by
  unfold cellsAt at hc
  split at hc
  · rename_i cs E m hb
    split at hc
    · rename_i hlen
      cases hc
      obtain ⟨ccs, CE, lo, hi, h1, h2, _⟩ := hr.obj' hb hl
      obtain ⟨m, hm1, hm2⟩ := list_build (R := CRel ι) ((cs.drop o).take n) (fun j => ccs[l.o + (o + j)]?) (fun i a ha => by
        have ha' : cs[o + i]? = some a := by
          rw [List.getElem?_take] at ha
          split at ha
          · simpa using ha
          · cases ha
        exact h2 _ _ ha')
      refine ⟨m, hm1, by simp; omega, fun j u hu => ?_⟩
      rw [add_none, Nat.add_assoc]
      simp only [World.cell?, h1, Option.isSome_none, Bool.false_eq_true, if_false]
      exact hm2 j u hu
    · cases hc
  · cases hc

theorem sim_load {t : TypeId} {ag : Bool} {n : Nat} {a ca : Value} {K : Value → H → Prop} (ht : tySize P t = some (ag, n)) (hr : HRel P W ι h w) (ha : VRel ι a ca)
    (hk : o_load ag n a h fun v => K v h) : Sim P W ι (Instr.loadAt t ca) w K := by
  obtain ⟨i, hi, hn, hag⟩ := tySize_spec ht
  unfold o_load at hk
  split at hk
  · rename_i b o
    obtain ⟨l, hl, rfl⟩ := ha.ptr
    cases ag with
    | true =>
      simp only [cond_true] at hk
      split at hk
      · rename_i vs hvs
        obtain ⟨vs', h1, h2, h3⟩ := read_cells hr hvs hl
        refine Sim.quiet (cv := .agg vs'.toArray) (v := .agg vs.toArray) hr ?_ (.a (.agg h1)) hk
        have := run_loadCells_list (P := P) w ⟨l.b, l.o + o, none⟩ vs' h3
        rw [← h1.length, h2] at this
        simp [Instr.loadAt, Instr.sureAddr, loadVar, hag, run_size hi, hn, this]
      · exact hk.elim
    | false =>
      simp only [cond_false] at hk
      split at hk
      · rename_i v hv
        obtain ⟨v', h1, h2⟩ := read_cell hr hv hl
        exact Sim.quiet (cv := v') (v := v) hr (by simp [Instr.loadAt, Instr.sureAddr, loadVar, hag, h1]) (.a (.c h2)) hk
      · exact hk.elim
  · exact hk.elim

/-! ### Writing cells -/
def setBlk (w : World) (b : Nat) (O : Obj) : World := { w with heap := w.heap.setIfInBounds b O }
theorem setBlk_same (w : World) {b : Nat} (O : Obj) (hb : b < w.heap.size) : (setBlk w b O).heap[b]? = some O := by simp [setBlk, hb]
theorem setBlk_ne (w : World) {b c : Nat} (O : Obj) (hc : c ≠ b) : (setBlk w b O).heap[c]? = w.heap[c]? := by
  simp [setBlk, Array.getElem?_setIfInBounds_ne (Ne.symm hc)]
theorem setBlk_size (w : World) (b : Nat) (O : Obj) : (setBlk w b O).heap.size = w.heap.size := by simp [setBlk]
theorem setBlk_twice (w : World) (b : Nat) (O O' : Obj) : setBlk (setBlk w b O) b O' = setBlk w b O' := by simp [setBlk]
theorem setCell_blk {b o : Nat} {ccs : Array Value} {CE : TypeId} {fz : Nat × Nat} (v : Value) (hb : w.heap[b]? = some (.cells ccs CE fz)) :
    w.setCell ⟨b, o, none⟩ v = setBlk w b (.cells (ccs.setIfInBounds o v) CE fz) := by
  have hlt : b < w.heap.size := (Array.getElem?_eq_some_iff.1 hb).1
  simp only [World.setCell, setBlk]
  congr 1
  apply Array.ext_getElem?
  intro i
  rw [Array.getElem?_modify, Array.getElem?_setIfInBounds]
  by_cases hi : b = i
  · subst hi; simp only [if_true, hb, Option.map_some, hlt]; simp
  · simp [hi]
theorem run_storeCells_blk (P : Program) (b o : Nat) (CE : TypeId) (lo hi : Nat) : ∀ (vs : List Value) (i : Nat) (ccs : Array Value) (w : World),
    w.heap[b]? = some (.cells ccs CE (lo, hi)) → o + i + vs.length ≤ ccs.size → (∀ j, j < ccs.size → ¬(lo ≤ j ∧ j < hi)) → (∀ v ∈ vs, v.oneCell' = true) →
    (storeCells ⟨b, o, none⟩ vs i).run P w = .ok () (if vs = [] then w else setBlk w b (.cells (setL ccs.toList (o + i) vs).toArray CE (lo, hi)))
  | [], i, ccs, w, _, _, _, _ => by simp [storeCells]
  | v :: vs, i, ccs, w, hb, hlen, hfz, h1 => by
    simp only [List.length_cons] at hlen
    have hlt : b < w.heap.size := (Array.getElem?_eq_some_iff.1 hb).1
    have hc : w.cell? ⟨b, o + i, none⟩ = some (ccs[o + i]'(by omega)) := by simp [World.cell?, hb]
    have hf : w.frozen? ⟨b, o + i, none⟩ = false := by
      simp only [World.frozen?, hb]
      have := hfz (o + i) (by omega)
      simp only [Bool.and_eq_false_iff, decide_eq_false_iff_not]
      omega
    have hs := setCell_blk (o := o + i) v hb
    have hb' : (setBlk w b (.cells (ccs.setIfInBounds (o + i) v) CE (lo, hi))).heap[b]? = some (.cells (ccs.setIfInBounds (o + i) v) CE (lo, hi)) := setBlk_same w _ hlt
    have ih := run_storeCells_blk P b o CE lo hi vs (i + 1) (ccs.setIfInBounds (o + i) v) (setBlk w b (.cells (ccs.setIfInBounds (o + i) v) CE (lo, hi))) hb' (by simp; omega) (by simpa using hfz) (fun u hu => h1 u (by simp [hu]))
    simp only [storeCells, Sem.run_bind, add_none, run_store P w ⟨b, o + i, none⟩ v _ (h1 v (by simp)), hc, hf, Bool.false_eq_true, if_false, Result.andThen_ok, hs, ih]
    congr 1
    rw [if_neg (by simp : ¬(v :: vs = []))]
    by_cases he : vs = []
    · subst he
      have e : ccs.setIfInBounds (o + i) v = (ccs.toList.set (o + i) v).toArray := by apply Array.ext'; simp
      simp [setL, e]
    · simp [he, setBlk_twice, setL, Nat.add_assoc]

theorem length_setL (vs : List Value) : ∀ (cs : List Value) (o : Nat), (setL cs o vs).length = cs.length := by
  induction vs with
  | nil => intro cs o; rfl
  | cons v vs ih => intro cs o; simp [setL, ih]
theorem get_setL (vs : List Value) : ∀ (cs : List Value) (o i : Nat), o + vs.length ≤ cs.length → (setL cs o vs)[i]? = if o ≤ i ∧ i < o + vs.length then vs[i - o]? else cs[i]? := by
  induction vs with
  | nil => intro cs o i _; simp [setL]; intro h1 h2; omega
  | cons v vs ih =>
    intro cs o i hl
    simp only [List.length_cons] at hl
    simp only [setL, ih (cs.set o v) (o + 1) i (by simp; omega), List.length_cons]
    by_cases h1 : o + 1 ≤ i ∧ i < o + 1 + vs.length
    · rw [if_pos h1, if_pos (by omega), show i - o = (i - (o + 1)) + 1 by omega]; simp
    · rw [if_neg h1]
      by_cases h2 : i = o
      · subst h2; rw [if_pos (by omega)]; simp; rw [List.getElem?_set]; simp; omega
      · rw [if_neg (by omega), List.getElem?_set]; simp [Ne.symm h2]

theorem orel_setL {B : Nat} {l : Loc} {cs vs vs' : List Value} {E : TypeId} {m : Own} {o : Nat} {ccs : Array Value} {CE : TypeId} {lo hi : Nat} {w' : World}
    (h2 : ∀ (i : Nat) (v : Value), cs[i]? = some v → ∃ v', ccs[l.o + i]? = some v' ∧ CRel ι v v')
    (h3 : (m = .ro → l.b < B) ∧ (m ≠ .ro → B ≤ l.b ∧ ∀ i, i < ccs.size → ¬(lo ≤ i ∧ lo ≠ hi)) ∧ (m ≠ .open → l.k = 0) ∧ (m = .open → l.o + cs.length + l.k * szOf P E ≤ ccs.size))
    (hv : All2 (CRel ι) vs vs') (hlen : o + vs.length ≤ cs.length) (hlen' : l.o + o + vs.length ≤ ccs.size)
    (hw : w'.heap[l.b]? = some (.cells (setL ccs.toList (l.o + o) vs').toArray CE (lo, hi))) :
    ORel P B ι l w' (.cells (setL cs o vs) E m) := by
  have hvl := hv.length
  refine ⟨_, CE, lo, hi, hw, ?_, h3.1, fun hm => ⟨(h3.2.1 hm).1, fun i hi => (h3.2.1 hm).2 i (by simpa [length_setL] using hi)⟩, h3.2.2.1, fun hm => by rw [length_setL]; simpa [length_setL] using h3.2.2.2 hm⟩
  intro i v hi'
  rw [get_setL _ _ _ _ hlen] at hi'
  simp only [List.getElem?_toArray]
  rw [get_setL _ _ _ _ (by simp; omega)]
  by_cases hin : o ≤ i ∧ i < o + vs.length
  · rw [if_pos hin] at hi'
    obtain ⟨v', ha, hc⟩ := hv.get hi'
    refine ⟨v', ?_, hc⟩
    rw [if_pos (by omega), show l.o + i - (l.o + o) = i - o by omega]
    exact ha
  · rw [if_neg hin] at hi'
    obtain ⟨v', ha, hc⟩ := h2 i v hi'
    refine ⟨v', ?_, hc⟩
    rw [if_neg (by omega)]
    simpa using ha

/-- Cells are written. -/
theorem put_cells (hr : HRel P W ι h w) {b o : Nat} {cs vs vs' : List Value} {E : TypeId} {m : Own} {l : Loc} (hb : h b = some (.cells cs E m)) (hl : ι b = some l) (hm : m ≠ .ro)
    (hv : All2 (CRel ι) vs vs') (hlen : o + vs.length ≤ cs.length) :
    ∃ w', (storeCells ⟨l.b, l.o + o, none⟩ vs').run P w = .ok () w' ∧ HRel P W ι (upd h b (.cells (setL cs o vs) E m)) w' := by
  obtain ⟨ccs, CE, lo, hi, h1, h2, h3⟩ := hr.obj' hb hl
  have hlt : l.b < w.heap.size := (Array.getElem?_eq_some_iff.1 h1).1
  by_cases h0 : vs = []
  · subst h0
    cases hv
    have e : upd h b (.cells (setL cs o []) E m) = h := by
      funext c; unfold upd; split
      · subst_vars; exact hb.symm
      · rfl
    exact ⟨w, by simp [storeCells], by rw [e]; exact hr⟩
  have hlen' : l.o + o + vs.length ≤ ccs.size := by
    have hpos : 0 < vs.length := List.length_pos_iff.2 h0
    have : cs[o + vs.length - 1]? = some (cs[o + vs.length - 1]'(by omega)) := List.getElem?_eq_getElem _
    obtain ⟨v', hv', _⟩ := h2 _ _ this
    have := (Array.getElem?_eq_some_iff.1 hv').1
    omega
  have hrun := run_storeCells_blk P l.b (l.o + o) CE lo hi vs' 0 ccs w h1 (by rw [← hv.length]; omega) (fun j hj hq => (h3.2.1 hm).2 j hj ⟨hq.1, by omega⟩) (fun v hv' => by
    obtain ⟨i, hi', hget⟩ := List.mem_iff_getElem.1 hv'
    obtain ⟨u, _, hu⟩ := hv.get' (show vs'[i]? = some v by rw [List.getElem?_eq_getElem hi', hget])
    exact hu.one)
  refine ⟨_, hrun, ?_⟩
  have he : vs' ≠ [] := by intro he; subst he; cases hv; exact h0 rfl
  rw [if_neg he]
  · refine hr.set hb hl (by cases m <;> first | rfl | exact absurd rfl hm) (setBlk_size _ _ _) (fun c hc => setBlk_ne _ _ hc) rfl rfl rfl (h3.2.1 hm).1 ?_ ?_
    · intro ces' clock' hc; rw [setBlk_same _ _ hlt] at hc; cases hc
    · exact orel_setL (P := P) h2 h3 hv hlen hlen' (by rw [setBlk_same _ _ hlt, Nat.add_zero])

end
end Go.Proofs.YtjdhldfeflmneaaGreat.AM
