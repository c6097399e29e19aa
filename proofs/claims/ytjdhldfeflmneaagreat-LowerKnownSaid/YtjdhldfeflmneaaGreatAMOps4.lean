/-
  The operations in the abstract memory tell what the model's operations do: slices, append, copy, literals, conversions.
-/
import Derived.Test.YtjdhldfeflmneaaGreatAMOps3
set_option linter.unusedSimpArgs false
set_option linter.unusedVariables false
namespace Go.Proofs.YtjdhldfeflmneaaGreat.AM
open Go.RowKit
section
variable {P : Program} {W : World} {ι : Env} {h : H} {w : World}

/-! ### Literals -/
theorem foldl_rel : ∀ (l l' : List (Value × Nat)) (cs cs' : Array Value) (off : Nat), All2 (fun a b => CRel ι a.1 b.1 ∧ a.2 = b.2) l l' → All2 (CRel ι) cs.toList cs'.toList →
    All2 (CRel ι) (l.foldl (fun cs x => cs.setIfInBounds (off + x.2) x.1) cs).toList (l'.foldl (fun cs x => cs.setIfInBounds (off + x.2) x.1) cs').toList := by
  intro l l' cs cs' off hl
  induction hl generalizing cs cs' with
  | nil => exact fun h => h
  | cons hab _ ih =>
    rename_i a b l l' _
    intro hc
    simp only [List.foldl_cons]
    refine ih _ _ ?_
    obtain ⟨h1, h2⟩ := hab
    simp only [Array.toList_setIfInBounds, h2]
    exact hc.set _ h1
theorem zip_rel {xs ys : List Value} (hx : All2 (CRel ι) xs ys) : ∀ n, All2 (fun a b : Value × Nat => CRel ι a.1 b.1 ∧ a.2 = b.2) (xs.zipIdx n) (ys.zipIdx n) := by
  induction hx with
  | nil => intro n; exact .nil
  | cons h _ ih => intro n; exact .cons ⟨h, rfl⟩ (ih (n + 1))
theorem fill_rel (place : Nat → Option (Nat × Nat)) : ∀ (ps ps' : List (Nat × Value)) (cells cells' : Array Value) (r : Array Value), All2 (fun a b => a.1 = b.1 ∧ ARel ι a.2 b.2) ps ps' → All2 (CRel ι) cells.toList cells'.toList →
    Instr.fill place cells ps = some r → ∃ r', Instr.fill place cells' ps' = some r' ∧ All2 (CRel ι) r.toList r'.toList := by
  intro ps ps' cells cells' r hp
  induction hp generalizing cells cells' with
  | nil => intro hc hf; simp only [Instr.fill] at hf; cases hf; exact ⟨_, rfl, hc⟩
  | cons hab _ ih =>
    rename_i a b ps ps' _
    obtain ⟨i, v⟩ := a
    obtain ⟨i', v'⟩ := b
    obtain ⟨e, hv⟩ := hab
    simp only at e hv
    subst e
    intro hc hf
    simp only [Instr.fill] at hf ⊢
    split at hf
    · cases hf
    · rename_i off size hpl
      split at hf
      · cases hf
      · rename_i hcond
        have hs := hv.size
        have hsz : cells'.size = cells.size := by simpa using hc.length.symm
        rw [if_neg (by rw [hs, hsz]; exact hcond)]
        refine ih _ _ ?_ hf
        have := foldl_rel v.cells.toList.zipIdx v'.cells.toList.zipIdx cells cells' off (zip_rel hv.cells 0) hc
        rw [← Array.foldl_toList, ← Array.foldl_toList, Array.toList_zipIdx, Array.toList_zipIdx]
        exact this

theorem parts_rel {ps : List (Nat × Operand)} {ρ ρ' : Operand → Value} (hρ : ∀ p ∈ ps, VRel ι (ρ p.2) (ρ' p.2)) (hb : (ps.map fun p => (p.1, ρ p.2)).all (fun p => boxV p.2) = true) :
    All2 (fun a b : Nat × Value => a.1 = b.1 ∧ ARel ι a.2 b.2) (ps.map fun p => (p.1, ρ p.2)) (ps.map fun p => (p.1, ρ' p.2)) := by
  induction ps with
  | nil => exact .nil
  | cons p ps ih =>
    simp only [List.map_cons, List.all_cons, Bool.and_eq_true] at hb
    exact .cons ⟨rfl, (hρ p (by simp)).toA hb.1⟩ (ih (fun q hq => hρ q (by simp [hq])) hb.2)

theorem sim_build {t : TypeId} {ps ps' : List (Nat × Value)} {K : Value → H → Prop} (hr : HRel P W ι h w) (hp : ps.all (fun p => boxV p.2) = true → All2 (fun a b => a.1 = b.1 ∧ ARel ι a.2 b.2) ps ps')
    (hk : o_build P t ps fun v => K v h) : Sim P W ι (Instr.build t ps'.toArray) w K := by
  unfold o_build at hk
  cases hb : ps.all (fun p => boxV p.2) with
  | false => rw [hb, cond_false] at hk; exact hk.elim
  | true =>
    rw [hb, cond_true] at hk
    have hp := hp hb
    split at hk
    · rename_i z cs hz hcs
      obtain ⟨hzs, hzi⟩ := zeroOf_spec hz
      have hzr : All2 (CRel ι) z.cells.toList z.cells.toList := (arel_self hzs).cells
      have : ∃ cs', P.built t ps' = some cs' ∧ All2 (CRel ι) cs.toList cs'.toList := by
        unfold Program.built at hcs ⊢
        cases hi : P.info? t with
        | none => rw [hi] at hcs; cases hcs
        | some it =>
          have hz' : it.zero = some z := by rw [hi] at hzi; simpa using hzi
          rw [hi] at hcs
          cases hu : P.underlying t with
          | none => rw [hu] at hcs; cases hcs
          | some d =>
            rw [hu] at hcs
            cases d <;> simp only [hz'] at hcs ⊢ <;> try (cases hcs; done)
            · rename_i n e
              cases he : P.info? e with
              | none => rw [he] at hcs; cases hcs
              | some ie => rw [he] at hcs; exact fill_rel _ ps ps' _ _ _ hp hzr hcs
            · rename_i fs
              cases hm : fs.toList.mapM (fun f => (P.info? f.type).map fun i => (f.offset, i.size)) with
              | none => rw [hm] at hcs; cases hcs
              | some pl => rw [hm] at hcs; exact fill_rel _ ps ps' _ _ _ hp hzr hcs
      obtain ⟨cs', h1, h2⟩ := this
      exact Sim.quiet hr (run_build w t ps'.toArray cs' h1) (.a (.agg h2)) hk
    · exact hk.elim

theorem all2_zero {z : Value} (hz : selfA z = true) (n : Nat) : All2 (CRel ι) ((Array.range n).map (z.cells[· % z.cells.size]!)).toList ((Array.range n).map (z.cells[· % z.cells.size]!)).toList := by
  have hzr : All2 (CRel ι) z.cells.toList z.cells.toList := (arel_self hz).cells
  refine All2.refl_of fun a ha => ?_
  simp only [Array.toList_map, List.mem_map] at ha
  obtain ⟨i, _, rfl⟩ := ha
  by_cases h0 : z.cells.size = 0
  · have : z.cells = #[] := Array.eq_empty_of_size_eq_zero h0
    rw [this]; exact .s (.bool _)
  · have hlt : i % z.cells.size < z.cells.size := Nat.mod_lt _ (by omega)
    rw [getElem!_pos z.cells _ hlt]
    obtain ⟨b, hb, hr⟩ := hzr.get (i := i % z.cells.size) (a := z.cells[i % z.cells.size]) (by simp [hlt])
    have : b = z.cells[i % z.cells.size] := by simp [hlt] at hb; exact hb.symm
    rw [this] at hr; exact hr

theorem sim_buildSlice {t e : TypeId} {len : Nat} {ps ps' : List (Nat × Value)} {cs : List Value} {K : Value → H → Prop} (hr : HRel P W ι h w) (hp : ps.all (fun p => boxV p.2) = true → All2 (fun a b => a.1 = b.1 ∧ ARel ι a.2 b.2) ps ps')
    (hl : litCells P t len ps = some (cs, e)) (hk : o_new cs e .exact h fun b h => K (.slice (some ⟨b, 0, none⟩) len len) h) : Sim P W ι (Instr.buildSlice t len ps'.toArray) w K := by
  unfold litCells at hl
  split at hl
  · rename_i e0 hu
    split at hl
    · rename_i i z hi hz
      obtain ⟨hzs, hzi⟩ := zeroOf_spec hz
      have hz' : i.zero = some z := by rw [hi] at hzi; simpa using hzi
      cases hb : (ps.all (fun p => boxV p.2) && Nat.ble (len * i.size) 16777216) with
      | false => rw [hb, cond_false] at hl; cases hl
      | true =>
        rw [hb, cond_true] at hl
        simp only [Bool.and_eq_true] at hb
        have hsmall : len * i.size ≤ 2 ^ 24 := by have := Nat.le_of_ble_eq_true hb.2; omega
        have hp := hp hb.1
        cases h0 : Nat.beq (len * i.size) 0 with
        | true =>
          rw [h0, cond_true] at hl
          have h0' : len * i.size = 0 := Nat.eq_of_beq_eq_true h0
          cases hps : ps.isEmpty with
          | false => rw [hps, cond_false] at hl; cases hl
          | true =>
            rw [hps, cond_true] at hl
            cases hl
            have hpe : ps = [] := List.isEmpty_iff.1 hps
            subst hpe
            cases hp
            refine sim_newRow (cs' := []) (f := fun a => .slice (some a) len len) (g := fun b => .slice (some ⟨b, 0, none⟩) len len) hr (by simp) .nil ?_ (fun b ι' _ hb => by simpa using vrel_slice_new (len := len) hb) hk
            simp [Instr.buildSlice, run_und hu, run_size hi, h0', Instr.fill, newRow, show Array.range 0 = #[] from rfl]
        | false =>
          rw [h0, cond_false] at hl
          have h0' : ¬ len * i.size = 0 := fun he => by rw [he] at h0; cases h0
          split at hl
          · rename_i r hf
            cases hl
            obtain ⟨r', h1, h2⟩ := fill_rel _ ps ps' _ _ _ hp (all2_zero hzs _) hf
            refine sim_newRow (cs' := r'.toList) (f := fun a => .slice (some a) len len) (g := fun b => .slice (some ⟨b, 0, none⟩) len len) hr (by simp) h2 ?_ (fun b ι' _ hb => by simpa using vrel_slice_new (len := len) hb) hk
            have hz1 : ¬ len * i.size > 2 ^ 24 := by omega
            simp only [Instr.buildSlice, Sem.run_bind, run_und hu, run_size hi, Result.andThen_ok, hz1, if_false, h0', run_zero hz, Sem.run_pure]
            simp [h1, newRow]
          · cases hl
    · cases hl
  · cases hl

theorem get_zerosL (z : List Value) : ∀ (n i : Nat), (zerosL z n)[i]? = if i < n * z.length then z[i % z.length]? else none := by
  intro n
  induction n with
  | zero => intro i; simp [zerosL]
  | succ n ih =>
    intro i
    simp only [zerosL, List.getElem?_append, ih]
    by_cases hi : i < z.length
    · rw [if_pos hi, if_pos (by rw [Nat.succ_mul]; omega), Nat.mod_eq_of_lt hi]
    · rw [if_neg hi]
      have e2 : i % z.length = (i - z.length) % z.length := Nat.mod_eq_sub_mod (by omega)
      rw [e2]
      have e3 : (n + 1) * z.length = n * z.length + z.length := Nat.succ_mul _ _
      by_cases hj : i - z.length < n * z.length
      · rw [if_pos hj, if_pos (by omega)]
      · rw [if_neg hj, if_neg (by omega)]
theorem zerosL_eq (z : Array Value) (hz : 0 < z.size) (n : Nat) : zerosL z.toList n = ((Array.range (n * z.size)).map (z[· % z.size]!)).toList := by
  apply List.ext_getElem?
  intro i
  rw [get_zerosL _]
  simp only [Array.length_toList, Array.toList_map, List.getElem?_map, Array.toList_range]
  by_cases hi : i < n * z.size
  · have hlt : i % z.size < z.size := Nat.mod_lt _ hz
    rw [if_pos hi, List.getElem?_range hi]
    simp [hlt]
  · rw [if_neg hi, List.getElem?_eq_none (by simpa using hi)]; rfl

theorem sim_makeSlice {t e : TypeId} {i : TypeInfo} {z : Value} {l c cl cc : Value} {K : Value → H → Prop} (hu : P.underlying t = some (.slice e)) (hi : P.info? e = some i) (hz : zeroOf P e = some z) (hr : HRel P W ι h w) (hl : VRel ι l cl) (hc : VRel ι c cc) (hk : o_makeSlice z.cells.toList i.size i.bytes e l c h K) : Sim P W ι (Instr.makeSlice t cl cc) w K := by
  unfold o_makeSlice at hk
  split at hk
  · rename_i kl l kc c
    obtain rfl := hl.int
    obtain rfl := hc.int
    · obtain ⟨hsz, h0, hlc, hb, h63, hpos, hk⟩ := hk
      simp only [Array.length_toList] at hsz
      have hwl : IntKind.i64.wrap l = l := IntWalk.i64_in l (by omega)
      have hwc : IntKind.i64.wrap c = c := IntWalk.i64_in c (by omega)
      have hzl : ¬ (c < 0 ∨ (i.bytes : Int) * c > 2 ^ 48) := by omega
      have hcs : All2 (CRel ι) (zerosL z.cells.toList c.toNat) (zerosL z.cells.toList c.toNat) := by
        rw [zerosL_eq z.cells (by omega)]
        exact all2_zero (zeroOf_spec hz).1 _
      refine sim_newRow (cs' := zerosL z.cells.toList c.toNat) (f := fun a => .slice (some a) l.toNat c.toNat) (g := fun b => .slice (some ⟨b, 0, none⟩) l.toNat c.toNat) hr (by simp) hcs ?_ (fun b ι' _ hb => ?_) hk
      · rw [zerosL_eq z.cells (by omega)]
        have hbad : ((decide (c < 0) || decide ((i.bytes : Int) * c > 2 ^ 48)) || decide (l < 0) || decide (l > c)) = false := by
          simp only [Bool.or_eq_false_iff, decide_eq_false_iff_not]
          refine ⟨⟨⟨by omega, by omega⟩, by omega⟩, by omega⟩
        simp only [Instr.makeSlice, Sem.run_bind, run_und hu, Result.andThen_ok, asInt, asIntOf, Sem.run_pure, run_info hi, hwl, hwc, hbad, Bool.false_eq_true, if_false, run_askRoom, run_size hi, hsz]
        by_cases hn : c.toNat * i.size = 0
        · simp [hn, newRow, show Array.range 0 = #[] from rfl]
        · have hn' : ¬ c.toNat * z.cells.size = 0 := by rw [hsz]; exact hn
          rw [← hsz]
          simp [hn', run_zero hz, newRow]
          congr 2
          apply Array.ext'
          simp
      · have := SRel.slice (o := 0) (n := l.toNat) (c := c.toNat) hb
        exact .a (.c (.s this))
  · exact hk.elim
end
end Go.Proofs.YtjdhldfeflmneaaGreat.AM
