import Derived.Test.YtbmfblmebhobiaaGreatM5
/-
  The executor's operations: literals, slices, maps, append and copy, strings.
-/
set_option linter.unusedSimpArgs false
set_option linter.unusedVariables false
namespace Go.Proofs.YtbmfblmebhobiaaGreat.AM
noncomputable section

section
variable {P : Program} {F : H} {ρ : Ren} {n : Nat} {eh : EH} {h : H}

/-! ### Literals -/
theorem fold_setL : ∀ (vs : List Value) (m off : Nat) (cs : Array Value), ((vs.zipIdx m).foldl (fun cs (p : Value × Nat) => cs.setIfInBounds (off + p.2) p.1) cs).toList = setL cs.toList (off + m) vs
  | [], m, off, cs => rfl
  | v :: vs, m, off, cs => by
    rw [List.zipIdx_cons, List.foldl_cons, fold_setL vs (m + 1) off, setL]
    simp [Array.toList_setIfInBounds, Nat.add_assoc]
def fillR (place : Nat → Option (Nat × Nat)) : R → List (Nat × XA) → Option R
  | r, [] => some r
  | r, (i, x) :: ps => match place i with
    | none => none
    | some (off, size) => bif Nat.beq x.cellsR.size size && Nat.ble (off + size) r.size then
        fillR place (match x with | .c v => r.set off v | .agg s => r.splice off s) ps else none
theorem fillR_ok (place : Nat → Option (Nat × Nat)) : ∀ (ps : List (Nat × XA)) (ps' : List (Nat × Value)) (r : R) (cells : Array Value) (r' : R), All2 (fun a b => b.1 = a.1 ∧ RA ρ a.2 b.2) ps ps' → All2 (RC ρ) r.toL cells.toList →
    fillR place r ps = some r' → ∃ cells', Instr.fill place cells ps' = some cells' ∧ All2 (RC ρ) r'.toL cells'.toList
  | [], _, r, cells, r', .nil, hc, hf => by
    simp only [fillR] at hf; cases hf
    exact ⟨cells, rfl, hc⟩
  | (i, x) :: ps, (i', v) :: ps', r, cells, r', .cons ⟨e, hx⟩ ht, hc, hf => by
    simp only at e hx
    subst e
    simp only [fillR] at hf
    simp only [Instr.fill]
    split at hf
    · cases hf
    · rename_i off size hpl
      cases hb : (Nat.beq x.cellsR.size size && Nat.ble (off + size) r.size)
      · rw [hb] at hf; cases hf
      · rw [hb, cond_true] at hf
        simp only [Bool.and_eq_true] at hb
        have h1 := Nat.eq_of_beq_eq_true hb.1
        have h2 := ble_iff.1 hb.2
        have hcl := hx.cells
        have h3 := hcl.length
        have h4 := hc.length
        rw [R.size_eq] at h1 h2
        simp only [Array.length_toList] at h3 h4
        have hcond : ¬ ((v.cells.size ≠ size || off + v.cells.size > cells.size) = true) := by simp; omega
        rw [hpl]
        simp only [if_neg hcond]
        refine fillR_ok place ps ps' _ _ r' ht ?_ hf
        have e : (v.cells.zipIdx.foldl (fun cs (p : Value × Nat) => cs.setIfInBounds (off + p.2) p.1) cells).toList = setL cells.toList off v.cells.toList := by
          rw [← Array.foldl_toList, Array.toList_zipIdx, fold_setL]; rfl
        have e2 : All2 (RC ρ) (match x with | .c v => r.set off v | .agg s => r.splice off s).toL (setL cells.toList off v.cells.toList) := by
          cases x with
          | c u =>
            simp only
            rw [R.set_toL]
            have := All2.setL hc hcl off
            simpa [AM.setL, XA.cellsR, R.toL] using this
          | agg s =>
            simp only
            rw [R.splice_toL _ _ _ (by rw [R.size_eq, R.size_eq]; simp only [XA.cellsR] at h1; omega)]
            exact All2.setL hc hcl off
        rw [← e] at e2
        exact e2
def XA.rope : XA → R := XA.cellsR
def builtR (P : Program) (t : TypeId) (z : R) (ps : List (Nat × XA)) : Option R :=
  match P.info? t, P.underlying t with
  | some it, some (.array _ e) =>
    match P.info? e with
    | some ie => fillR (fun i => some (i * ie.size, ie.size)) z ps
    | _ => none
  | some it, some (.struct fields) =>
    match fields.toList.mapM (fun f => (P.info? f.type).map fun i => (f.offset, i.size)) with
    | some places => fillR (places[·]?) z ps
    | _ => none
  | _, _ => none
theorem builtR_ok {t : TypeId} {z : Value} {zr r : R} {ps : List (Nat × XA)} {ps' : List (Nat × Value)} (hz : zeroOf P t = some z) (hzr : All2 (RC ρ) zr.toL z.cells.toList) (hp : All2 (fun a b => b.1 = a.1 ∧ RA ρ a.2 b.2) ps ps')
    (hb : builtR P t zr ps = some r) : ∃ cs, P.built t ps' = some cs ∧ All2 (RC ρ) r.toL cs.toList := by
  have hzi : (P.info? t).bind (·.zero) = some z := by
    unfold zeroOf at hz
    split at hz
    · rename_i z' hz'
      split at hz
      · cases hz; exact hz'
      · cases hz
    · cases hz
  unfold builtR at hb
  unfold Program.built
  cases hi : P.info? t with
  | none => rw [hi] at hb; cases hb
  | some it =>
    have hz' : it.zero = some z := by rw [hi] at hzi; simpa using hzi
    rw [hi] at hb
    cases hu : P.underlying t with
    | none => rw [hu] at hb; cases hb
    | some d =>
      rw [hu] at hb
      cases d <;> simp only [hz'] at hb ⊢ <;> try (cases hb; done)
      · rename_i m e
        cases he : P.info? e with
        | none => rw [he] at hb; cases hb
        | some ie => rw [he] at hb; exact fillR_ok _ _ _ _ _ _ hp hzr hb
      · rename_i fs
        cases hm : fs.toList.mapM (fun f => (P.info? f.type).map fun i => (f.offset, i.size)) with
        | none => rw [hm] at hb; cases hb
        | some places =>
          rw [hm] at hb
          have e : (fun (i : Nat) => places.toArray[i]?) = (fun (i : Nat) => places[i]?) := by funext i; simp
          simp only [e]
          exact fillR_ok _ _ _ _ _ _ hp hzr hb
def e_build (P : Program) (t : TypeId) (ps : List (Nat × XA)) : Option XV :=
  match zeroX P t with
  | some z => (match builtR P t z.cellsR ps with | some r => some (.a (.agg r)) | none => none)
  | none => none
theorem parts_box {ps : List (Nat × XA)} {ps' : List (Nat × Value)} (hp : All2 (fun a b => b.1 = a.1 ∧ RA ρ a.2 b.2) ps ps') : ps'.all (fun p => boxV p.2) = true := by
  induction hp with
  | nil => rfl
  | cons h _ ih => simp only [List.all_cons, h.2.boxV, ih, Bool.and_self]
theorem e_build_ok {t : TypeId} {ps : List (Nat × XA)} {ps' : List (Nat × Value)} {x : XV} {K : Value → Prop} (hp : All2 (fun a b => b.1 = a.1 ∧ RA ρ a.2 b.2) ps ps') (he : e_build P t ps = some x) (hk : ∀ v, RV ρ x v → K v) : o_build P t ps' K := by
  unfold e_build at he
  split at he
  · rename_i z hz
    split at he
    · rename_i r hr
      cases he
      obtain ⟨z', h1, h2⟩ := zeroX_ok (ρ := ρ) hz
      obtain ⟨cs, h3, h4⟩ := builtR_ok h1 h2.cells hp hr
      unfold o_build
      rw [parts_box hp, cond_true]
      simp only [h1, h3]
      exact hk _ (.a (.agg h4))
    · cases he
  · cases he
def zerosR (z : R) : Nat → R
  | 0 => .nil
  | m + 1 => .mk z (zerosR z m)
theorem zerosR_toL (z : R) : ∀ m, (zerosR z m).toL = zerosL z.toL m
  | 0 => rfl
  | m + 1 => by rw [zerosR, R.mk_toL, zerosR_toL z m, zerosL]
def zerosF (z : R) (m : Nat) : R :=
  match z with
  | .one v => .rep m v
  | .rep k v => .rep (m * k) v
  | z => zerosR z m
theorem zerosF_toL (z : R) (m : Nat) : (zerosF z m).toL = zerosL z.toL m := by
  unfold zerosF
  split
  · induction m with
    | zero => rfl
    | succ m ih => rw [zerosL, ← ih]; simp [R.toL, List.replicate_succ]
  · rename_i k v
    induction m with
    | zero => simp [R.toL, zerosL]
    | succ m ih =>
      rw [zerosL, ← ih]
      simp only [R.toL, List.replicate_append_replicate]
      congr 1
      rw [Nat.succ_mul]; omega
  · exact zerosR_toL _ _
def litR (P : Program) (t : TypeId) (len : Nat) (ps : List (Nat × XA)) : Option (R × TypeId) :=
  match P.underlying t with
  | some (.slice e) => match P.info? e, zeroX P e with
    | some i, some z =>
      bif Nat.ble (len * i.size) 16777216 then
        bif Nat.beq (len * i.size) 0 then (bif ps.isEmpty then some (.nil, e) else none) else
        bif Nat.beq z.cellsR.size i.size then
        match fillR (fun j => some (j * i.size, i.size)) (zerosF z.cellsR len) ps with
        | some r => some (r, e)
        | none => none
        else none
      else none
    | _, _ => none
  | _ => none
theorem range_zero : ∀ (z : List Value) (len : Nat), 0 < z.length → (List.range (len * z.length)).map (fun i => z[i % z.length]?.getD default) = zerosL z len
  | z, 0, _ => by simp [zerosL]
  | z, len + 1, hz => by
    rw [zerosL, ← range_zero z len hz, Nat.succ_mul, Nat.add_comm, List.range_add, List.map_append, List.map_map]
    congr 1
    · apply List.ext_getElem?
      intro i
      by_cases hi : i < z.length
      · simp [List.getElem?_map, List.getElem?_range, hi, Nat.mod_eq_of_lt hi]
      · simp [List.getElem?_eq_none (Nat.le_of_not_lt hi), hi]
    · apply List.map_congr_left
      intro i _
      simp [Function.comp, Nat.add_mod_left]
theorem litR_ok {t e : TypeId} {len : Nat} {ps : List (Nat × XA)} {ps' : List (Nat × Value)} {r : R} (hp : All2 (fun a b => b.1 = a.1 ∧ RA ρ a.2 b.2) ps ps') (he : litR P t len ps = some (r, e)) :
    ∃ cs, litCells P t len ps' = some (cs, e) ∧ All2 (RC ρ) r.toL cs := by
  unfold litR at he
  unfold litCells
  split at he
  · rename_i e0 hu
    simp only [hu]
    split at he
    · rename_i i z hi hz
      obtain ⟨z', h1, h2⟩ := zeroX_ok (ρ := ρ) hz
      simp only [hi, h1, parts_box hp, Bool.true_and]
      cases hb : Nat.ble (len * i.size) 16777216
      · rw [hb] at he; cases he
      · rw [hb, cond_true] at he
        rw [cond_true]
        cases h0 : Nat.beq (len * i.size) 0
        · rw [h0, cond_false] at he
          rw [cond_false]
          cases hzs : Nat.beq z.cellsR.size i.size
          · rw [hzs] at he; cases he
          · rw [hzs, cond_true] at he
            have hzs' := Nat.eq_of_beq_eq_true hzs
            split at he
            · rename_i r' hr
              cases he
              have hlz := h2.cells.length
              rw [R.size_eq] at hzs'
              have hpos : 0 < len * i.size := by
                rcases Nat.eq_zero_or_pos (len * i.size) with hh | hh
                · rw [hh] at h0; cases h0
                · exact hh
              have hpos2 : 0 < i.size := by
                rcases Nat.eq_zero_or_pos i.size with hh | hh
                · rw [hh, Nat.mul_zero] at hpos; omega
                · exact hh
              have hsz : z'.cells.toList.length = i.size := by omega
              have e1 : ((Array.range (len * i.size)).map (z'.cells[· % z'.cells.size]!)).toList = zerosL z'.cells.toList len := by
                rw [← range_zero _ _ (by omega), hsz]
                simp only [Array.toList_map, Array.toList_range]
                apply List.map_congr_left
                intro j _
                simp only [Array.length_toList] at hsz
                rw [hsz]
                simp [Array.getElem!_eq_getD, Array.getD_eq_getD_getElem?]
              have hrel : ∀ (a b : List Value) (m : Nat), All2 (RC ρ) a b → All2 (RC ρ) (zerosL a m) (zerosL b m) := by
                intro a b m hab
                induction m with
                | zero => exact .nil
                | succ m ih => exact hab.append ih
              obtain ⟨cells', h3, h4⟩ := fillR_ok _ ps ps' (zerosF z.cellsR len) ((Array.range (len * i.size)).map (z'.cells[· % z'.cells.size]!)) r hp (by rw [zerosF_toL, e1]; exact hrel _ _ _ h2.cells) hr
              simp only [h3]
              exact ⟨_, rfl, h4⟩
            · cases he
        · rw [h0, cond_true] at he
          rw [cond_true]
          cases hps : ps.isEmpty
          · rw [hps] at he; cases he
          · rw [hps] at he; cases he
            have : ps = [] := List.isEmpty_iff.1 hps
            subst this
            cases hp
            exact ⟨[], rfl, .nil⟩
    · cases he
  · cases he
def e_buildSlice (P : Program) (t : TypeId) (len : Nat) (ps : List (Nat × XA)) (eh : EH) (n : Nat) : Res :=
  match litR P t len ps with
  | some (r, e) => some (.a (.c (.slice (some ⟨n, 0, none⟩) len len)), eh.set n (.cells r e .exact), n + 1)
  | none => none
theorem e_buildSlice_ok {t : TypeId} {len : Nat} {ps : List (Nat × XA)} {ps' : List (Nat × Value)} {r : XV × EH × Nat} {K : Value → H → Prop} (hs : XSim F ρ n eh h) (hp : All2 (fun a b => b.1 = a.1 ∧ RA ρ a.2 b.2) ps ps')
    (he : e_buildSlice P t len ps eh n = some r) (hk : Good F ρ r K) : o_buildSlice P t len ps' h K := by
  unfold e_buildSlice at he
  split at he
  · rename_i q e hq
    cases he
    obtain ⟨cs, h1, h2⟩ := litR_ok hp hq
    unfold o_buildSlice
    simp only [h1]
    exact new_ok hs h2 fun b' ρ' t h' hl hb hs' => hk ρ' _ h' hl hs' (.a (.c (.s (.slice hb))))
  · cases he
def e_alloc (P : Program) (E : TypeId) (eh : EH) (n : Nat) : Res :=
  match zeroX P E with
  | some z => some (.a (.c (.pointer (some ⟨n, 0, none⟩))), eh.set n (.cells z.cellsR E .exact), n + 1)
  | none => none
theorem e_alloc_ok {E : TypeId} {r : XV × EH × Nat} {K : Value → H → Prop} (hs : XSim F ρ n eh h) (he : e_alloc P E eh n = some r) (hk : Good F ρ r K) :
    (match zeroOf P E with | some z => o_new z.cells.toList E .exact h fun b h => K (.pointer (some ⟨b, 0, none⟩)) h | none => False) := by
  unfold e_alloc at he
  split at he
  · rename_i z hz
    cases he
    obtain ⟨z', h1, h2⟩ := zeroX_ok (ρ := ρ) hz
    simp only [h1]
    exact new_ok hs h2.cells fun b' ρ' t h' hl hb hs' => hk ρ' _ h' hl hs' (.a (.c (.s (.ptr hb))))
  · cases he
def e_box (E : TypeId) (x : XA) (eh : EH) (n : Nat) : Res := some (.a (.c (.pointer (some ⟨n, 0, none⟩))), eh.set n (.cells x.cellsR E .exact), n + 1)
theorem e_box_ok {E : TypeId} {x : XA} {v : Value} {r : XV × EH × Nat} {K : Value → H → Prop} (hs : XSim F ρ n eh h) (hv : RA ρ x v) (he : e_box E x eh n = some r) (hk : Good F ρ r K) :
    boxV v = true ∧ o_new v.cells.toList E .exact h fun b h => K (.pointer (some ⟨b, 0, none⟩)) h := by
  cases he
  exact ⟨hv.boxV, new_ok hs hv.cells fun b' ρ' t h' hl hb hs' => hk ρ' _ h' hl hs' (.a (.c (.s (.ptr hb))))⟩
def e_makeSlice (P : Program) (e : TypeId) (l c : XA) (eh : EH) (n : Nat) : Res :=
  match P.info? e, zeroX P e, l, c with
  | some i, some z, .c (.int _ (.ofNat l)), .c (.int _ (.ofNat c)) =>
    bif Nat.beq z.cellsR.size i.size && Nat.ble l c && Nat.ble (i.bytes * c) 281474976710656 && Nat.blt c 9223372036854775808 && Nat.blt 0 i.size then
      some (.a (.c (.slice (some ⟨n, 0, none⟩) l c)), eh.set n (.cells (zerosF z.cellsR c) e .exact), n + 1) else none
  | _, _, _, _ => none
theorem e_makeSlice_ok {e : TypeId} {l c : XA} {v w : Value} {r : XV × EH × Nat} {K : Value → H → Prop} (hs : XSim F ρ n eh h) (hv : RA ρ l v) (hw : RA ρ c w) (he : e_makeSlice P e l c eh n = some r) (hk : Good F ρ r K) :
    (match P.info? e, zeroOf P e with | some i, some z => o_makeSlice z.cells.toList i.size i.bytes e v w h K | _, _ => False) := by
  unfold e_makeSlice at he
  split at he
  · rename_i i z k1 l k2 c hi hz
    cases hb : (Nat.beq z.cellsR.size i.size && Nat.ble l c && Nat.ble (i.bytes * c) 281474976710656 && Nat.blt c 9223372036854775808 && Nat.blt 0 i.size)
    · rw [hb] at he; cases he
    · rw [hb] at he; cases he
      simp only [Bool.and_eq_true] at hb
      obtain ⟨⟨⟨⟨b1, b2⟩, b3⟩, b4⟩, b5⟩ := hb
      have b1 := Nat.eq_of_beq_eq_true b1
      have b2 := ble_iff.1 b2
      have b3 := ble_iff.1 b3
      have b4 := blt_iff.1 b4
      have b5 := blt_iff.1 b5
      obtain ⟨z', h1, h2⟩ := zeroX_ok (ρ := ρ) hz
      obtain rfl := hv.toC.self_eq rfl
      obtain rfl := hw.toC.self_eq rfl
      simp only [hi, h1]
      rw [R.size_eq] at b1
      have hl := h2.cells.length
      have hrel : ∀ (a b : List Value) (m : Nat), All2 (RC ρ) a b → All2 (RC ρ) (zerosL a m) (zerosL b m) := by
        intro a b m hab
        induction m with
        | zero => exact .nil
        | succ m ih => exact hab.append ih
      refine ⟨by omega, Int.natCast_nonneg _, Int.ofNat_le.2 b2, ?_, Int.ofNat_lt.2 b4, b5, ?_⟩
      · have := Int.ofNat_le.2 b3
        rw [Int.natCast_mul] at this
        exact this
      simp only [Int.ofNat_eq_natCast, Int.toNat_natCast]
      exact new_ok hs (by rw [zerosF_toL]; exact hrel _ _ _ h2.cells) fun b' ρ' t h' hl hb hs' => hk ρ' _ h' hl hs' (.a (.c (.s (.slice hb))))
  · cases he

/-! ### Stretches -/
def natX (d : Nat) : Option XA → Option Nat
  | none => some d
  | some (.c (.int _ (.ofNat i))) => some i
  | _ => none
inductive ROpt (ρ : Ren) : Option XA → Option Value → Prop
  | none : ROpt ρ none none
  | some {x v} (h : RA ρ x v) : ROpt ρ (some x) (some v)
theorem natX_ok {d : Nat} {x : Option XA} {v : Option Value} {i : Nat} (hv : ROpt ρ x v) (he : natX d x = some i) : (match (motive := Option Value → Prop) v with | some (.int _ j) => j = (i : Int) | none => i = d | _ => False) := by
  unfold natX at he
  split at he
  · cases hv; cases he; rfl
  · cases hv with
    | some hv => obtain rfl := hv.toC.self_eq rfl; cases he; rfl
  · cases he
def e_slice (size : Nat) (x : XA) (lo hi mx : Option XA) : Option XV :=
  match x, mx with
  | .c (.slice (some ⟨b, o, none⟩) m c), none => match natX 0 lo, natX m hi with
    | some l, some u => bif Nat.ble l u && Nat.ble u c && Nat.blt c CAPT then
        (bif Nat.beq l 0 then some (.a (.c (.slice (some ⟨b, o, none⟩) u c))) else bif Nat.blt l c then some (.a (.c (.slice (some ⟨b, o + l * size, none⟩) (u - l) (c - l)))) else some (.a (.c (.slice (some ⟨1, 0, none⟩) 0 0)))) else none
    | _, _ => none
  | .c (.slice none 0 0), none => match natX 0 lo, natX 0 hi with
    | some 0, some 0 => some (.a (.c (.slice none 0 0)))
    | _, _ => none
  | _, _ => none
theorem e_slice_ok {size : Nat} {x : XA} {lo hi mx : Option XA} {v : Value} {lo' hi' mx' : Option Value} {r : XV} {K : Value → Prop} (hs : XSim F ρ n eh h) (hv : RA ρ x v) (hlo : ROpt ρ lo lo') (hhi : ROpt ρ hi hi') (hmx : ROpt ρ mx mx')
    (he : e_slice size x lo hi mx = some r) (hk : ∀ u, RV ρ r u → K u) : o_slice size v lo' hi' mx' K := by
  unfold e_slice at he
  split at he
  · rename_i b o m c
    split at he
    · rename_i l u hl hu
      cases hb : (Nat.ble l u && Nat.ble u c && Nat.blt c CAPT)
      · rw [hb] at he; cases he
      · rw [hb, cond_true] at he
        simp only [Bool.and_eq_true] at hb
        have h1 := ble_iff.1 hb.1.1
        have h2 := ble_iff.1 hb.1.2
        obtain ⟨b', t, hρ, rfl⟩ := hv.toC.sl (blt_iff.1 hb.2)
        cases hmx
        refine ⟨l, u, natX_ok hlo hl, natX_ok hhi hu, h1, h2, ?_⟩
        cases h0 : Nat.beq l 0
        · rw [h0, cond_false] at he
          have h0' : l ≠ 0 := fun e => by rw [e] at h0; cases h0
          rw [if_neg h0']
          cases h3 : Nat.blt l c
          · rw [h3, cond_false] at he; cases he
            rw [if_neg (by have := blt_false.1 h3; omega)]
            obtain ⟨t, ht⟩ := hs.z1
            exact hk _ (.a (.c (.s (.slice ht))))
          · rw [h3, cond_true] at he; cases he
            rw [if_pos (blt_iff.1 h3)]
            exact hk _ (.a (.c (.s (.slice hρ))))
        · rw [h0, cond_true] at he; cases he
          rw [if_pos (Nat.eq_of_beq_eq_true h0)]
          exact hk _ (.a (.c (.s (.slice hρ))))
    · cases he
  · split at he
    · rename_i hl hu
      cases he
      obtain rfl := hv.toC.self_eq rfl
      cases hmx
      have h1 := natX_ok hlo hl
      have h2 := natX_ok hhi hu
      refine ⟨?_, ?_, hk _ (.a (.c (.of_self rfl)))⟩
      · cases hlo with
        | none => trivial
        | some hq =>
          revert h1; split
          · rename_i e; cases e; intro h1; exact h1
          · rename_i e; cases e
          · intro h; exact h.elim
      · cases hhi with
        | none => trivial
        | some hq =>
          revert h2; split
          · rename_i e; cases e; intro h1; exact h1
          · rename_i e; cases e
          · intro h; exact h.elim
    · cases he
  · cases he
def e_sliceStr (x : XA) (lo hi : Option XA) : Option XV :=
  match x with
  | .c (.string s) => match natX 0 lo, natX s.size hi with
    | some l, some u => bif Nat.ble l u && Nat.ble u s.size then some (.a (.c (.string ⟨⟨(s.data.toList.drop l).take (u - l)⟩⟩))) else none
    | _, _ => none
  | _ => none
theorem extract_eq (s : ByteArray) (l u : Nat) (h1 : l ≤ u) (h2 : u ≤ s.size) : s.extract l u = ⟨⟨(s.data.toList.drop l).take (u - l)⟩⟩ := by
  apply ByteArray.ext
  rw [ByteArray.data_extract]
  apply Array.ext'
  simp [Array.toList_extract, List.extract_eq_take_drop]
theorem e_sliceStr_ok {x : XA} {lo hi : Option XA} {v : Value} {lo' hi' : Option Value} {r : XV} {K : Value → Prop} (hv : RA ρ x v) (hlo : ROpt ρ lo lo') (hhi : ROpt ρ hi hi')
    (he : e_sliceStr x lo hi = some r) (hk : ∀ u, RV ρ r u → K u) : o_sliceStr v lo' hi' K := by
  unfold e_sliceStr at he
  split at he
  · rename_i s
    split at he
    · rename_i l u hl hu
      cases hb : (Nat.ble l u && Nat.ble u s.size)
      · rw [hb] at he; cases he
      · rw [hb] at he; cases he
        simp only [Bool.and_eq_true] at hb
        have h1 := ble_iff.1 hb.1
        have h2 := ble_iff.1 hb.2
        obtain rfl := hv.toC.self_eq rfl
        refine ⟨l, u, natX_ok hlo hl, natX_ok hhi hu, h1, h2, ?_⟩
        rw [extract_eq s l u h1 h2]
        exact hk _ (.a (.c (.of_self rfl)))
    · cases he
  · cases he
def notOpen : Own → Bool
  | .open => false
  | _ => true
theorem notOpen_ne {m : Own} (h : notOpen m = true) : m ≠ .open := by rintro rfl; cases h
def e_sliceArr (m size : Nat) (x : XA) (lo hi : Option XA) (eh : EH) : Option XV :=
  match x with
  | .c (.pointer (some ⟨b, o, none⟩)) => match eh.get b, natX 0 lo, natX m hi with
    | some (.cells _ _ w), some l, some u => bif notOpen w && Nat.ble l u && Nat.ble u m then
        (bif Nat.blt l m then some (.a (.c (.slice (some ⟨b, o + l * size, none⟩) (u - l) (m - l)))) else some (.a (.c (.slice (some ⟨1, 0, none⟩) 0 0)))) else none
    | _, _, _ => none
  | _ => none
theorem e_sliceArr_ok {m size : Nat} {x : XA} {lo hi : Option XA} {v : Value} {lo' hi' : Option Value} {r : XV} {K : Value → Prop} (hs : XSim F ρ n eh h) (hv : RA ρ x v) (hlo : ROpt ρ lo lo') (hhi : ROpt ρ hi hi')
    (he : e_sliceArr m size x lo hi eh = some r) (hk : ∀ u, RV ρ r u → K u) : o_sliceArr m size v lo' hi' h K := by
  unfold e_sliceArr at he
  split at he
  · rename_i b o
    split at he
    · rename_i q E w l u hg hl hu
      cases hb : (notOpen w && Nat.ble l u && Nat.ble u m)
      · rw [hb] at he; cases he
      · rw [hb, cond_true] at he
        simp only [Bool.and_eq_true] at hb
        obtain ⟨⟨b1, b2⟩, b3⟩ := hb
        have b2 := ble_iff.1 b2
        have b3 := ble_iff.1 b3
        obtain ⟨b', t, hρ, rfl⟩ := hv.toC.ptr
        obtain ⟨cs, h1, h2⟩ := hs.cells hg hρ
        unfold o_sliceArr
        simp only [h1]
        refine ⟨notOpen_ne b1, l, u, natX_ok hlo hl, natX_ok hhi hu, b2, b3, ?_⟩
        cases h3 : Nat.blt l m
        · rw [h3, cond_false] at he; cases he
          rw [if_neg (by have := blt_false.1 h3; omega)]
          obtain ⟨t, ht⟩ := hs.z1
          exact hk _ (.a (.c (.s (.slice ht))))
        · rw [h3, cond_true] at he; cases he
          rw [if_pos (blt_iff.1 h3)]
          exact hk _ (.a (.c (.s (.slice hρ))))
    · cases he
  · cases he

/-! ### append, copy -/
def lenX : XA → Option Nat
  | .c (.slice _ m _) => some m
  | .c (.string s) => some s.size
  | _ => none
theorem lenX_ok {x : XA} {v : Value} {m : Nat} (hv : RA ρ x v) (he : lenX x = some m) : srcLen v = some m := by
  unfold lenX at he
  split at he
  · obtain ⟨a', _, rfl, _, _⟩ := (hv.toC.toS rfl).slice'; cases he; rfl
  · obtain rfl := hv.toC.self_eq rfl; cases he; rfl
  · cases he
def srcR (size : Nat) (eh : EH) (x : XA) (m : Nat) : Option R :=
  match x with
  | .c (.slice none 0 0) => bif Nat.beq m 0 then some .nil else none
  | .c (.slice (some ⟨b, o, none⟩) _ _) => bif Nat.beq m 0 then some .nil else (match eh.get b with
    | some (.cells r _ _) => bif Nat.ble (o + m * size) r.size then some ((r.drop o).take (m * size)) else none
    | _ => none)
  | .c (.string s) => bif Nat.ble m s.size then some (R.ofL ((s.data.toList.take m).map fun b => .int .u8 (.ofNat b.toNat))) else none
  | _ => none
theorem srcR_ok {size : Nat} {x : XA} {v : Value} {m : Nat} {r : R} (hs : XSim F ρ n eh h) (hv : RA ρ x v) (he : srcR size eh x m = some r) : ∃ cs, srcCells size h v m = some cs ∧ All2 (RC ρ) r.toL cs := by
  unfold srcR at he
  split at he
  · obtain rfl := hv.toC.self_eq rfl
    cases hb : Nat.beq m 0
    · rw [hb] at he; cases he
    · rw [hb] at he; cases he
      have := Nat.eq_of_beq_eq_true hb
      subst this
      exact ⟨[], rfl, .nil⟩
  · rename_i b o p q
    obtain ⟨b', t, _, hρ, rfl, _⟩ := hv.toC.slT
    cases hb : Nat.beq m 0
    · rw [hb, cond_false] at he
      have h0 : m ≠ 0 := fun e => by rw [e] at hb; cases hb
      split at he
      · rename_i r' E w hg
        cases hl : Nat.ble (o + m * size) r'.size
        · rw [hl] at he; cases he
        · rw [hl] at he; cases he
          have hl := ble_iff.1 hl
          obtain ⟨cs, h1, h2⟩ := hs.cells hg hρ
          rw [R.size_eq, h2.length] at hl
          refine ⟨(cs.drop o).take (m * size), ?_, ?_⟩
          · show (if m = 0 then some [] else cellsAt h b' o (m * size)) = _
            rw [if_neg h0]
            simp only [AM.cellsAt, h1, hl, if_true]
          · rw [R.take_toL, R.drop_toL]; exact (h2.drop o).take _
      · cases he
    · rw [hb] at he; cases he
      have := Nat.eq_of_beq_eq_true hb
      subst this
      exact ⟨[], rfl, .nil⟩
  · rename_i s
    obtain rfl := hv.toC.self_eq rfl
    cases hb : Nat.ble m s.size
    · rw [hb] at he; cases he
    · rw [hb] at he; cases he
      refine ⟨((s.extract 0 m).data.toList).map fun b => .int .u8 b.toNat, rfl, ?_⟩
      rw [R.ofL_toL, extract_eq s 0 m (Nat.zero_le _) (ble_iff.1 hb)]
      simp only [List.drop_zero, Nat.sub_zero]
      exact All2.refl_of fun a ha => by
        obtain ⟨b, _, rfl⟩ := List.mem_map.1 ha
        exact .of_self rfl
  · cases he
def e_append (e : TypeId) (size bytes : Nat) (s x : XA) (eh : EH) (n : Nat) : Res :=
  match s, lenX x with
  | .c (.slice base len cap), some m => bif !Nat.blt cap CAPT then none else match srcR size eh x m with
    | none => none
    | some new =>
      bif Nat.ble (len + m) cap then
        (match base with
         | some ⟨b, o, none⟩ => bif Nat.beq m 0 then some (.a s, eh, n) else
            (match eh.get b with
             | some (.cells r E w) => bif notRo w && Nat.ble (o + (len + m) * size) r.size && Nat.beq new.size (m * size) then
                some (.a (.c (.slice base (len + m) cap)), eh.set b (.cells (r.splice (o + len * size) new) E w), n) else none
             | _ => none)
         | none => bif Nat.beq m 0 then some (.a s, eh, n) else none
         | _ => none)
      else bif Nat.ble ((len + m) * bytes) 140737488355328 && Nat.blt (len + m) 9223372036854775808 && Nat.beq new.size (m * size) && Nat.blt 0 m then
        (match base with
         | none => bif Nat.beq len 0 then some (.a (.c (.slice (some ⟨n, 0, none⟩) m m)), eh.set n (.cells new e .open), n + 1) else none
         | some ⟨b, o, none⟩ =>
           bif Nat.beq b 0 then (bif Nat.beq len 0 then some (.a (.c (.slice (some ⟨n, 0, none⟩) m m)), eh.set n (.cells new e .open), n + 1) else none)
           else (match eh.get b with
             | some (.cells r E w) => bif Nat.ble (o + len * size) r.size then (match w with
                | .open => bif Nat.beq E e && Nat.beq (o + cap * size) r.size && Nat.blt 0 size then
                    some (.a (.c (.slice (some ⟨n, 0, none⟩) (len + m) (len + m))), (eh.set b .dead).set n (.cells (.mk ((r.drop o).take (len * size)) new) e .open), n + 1) else none
                | _ => some (.a (.c (.slice (some ⟨n, 0, none⟩) (len + m) (len + m))), eh.set n (.cells (.mk ((r.drop o).take (len * size)) new) e .open), n + 1)) else none
             | _ => none)
         | _ => none)
      else none
  | _, _ => none
theorem XSim.z0' (hs : XSim F ρ n eh h) {b b' : Nat} {t : LObj} (hb : ρ b = some (b', t)) (h2 : b ≠ 0) : b' ≠ 0 := by
  by_cases e : b = 1
  · subst e; obtain ⟨t, ht⟩ := hs.z1; rw [ht] at hb; cases hb; omega
  · have := hs.two b b' t (by omega) hb; omega
theorem e_append_ok {e : TypeId} {size bytes : Nat} {s x : XA} {v w : Value} {r : XV × EH × Nat} {K : Value → H → Prop} (hs : XSim F ρ n eh h) (hv : RA ρ s v) (hw : RA ρ x w) (he : e_append e size bytes s x eh n = some r) (hk : Good F ρ r K) :
    o_append e size bytes v w h K := by
  unfold e_append at he
  split at he
  · rename_i base len cap m hm
    cases hcp : Nat.blt cap CAPT
    · rw [hcp] at he; cases he
    rw [hcp, Bool.not_true, cond_false] at he
    have hcp := blt_iff.1 hcp
    split at he
    · cases he
    · rename_i new hnew
      have hm' := lenX_ok hw hm
      obtain ⟨ncs, hn1, hn2⟩ := srcR_ok hs hw hnew
      have hnl := hn2.length
      cases hb : Nat.ble (len + m) cap
      · rw [hb, cond_false] at he
        have hb := ble_false.1 hb
        cases hc : (Nat.ble ((len + m) * bytes) 140737488355328 && Nat.blt (len + m) 9223372036854775808 && Nat.beq new.size (m * size) && Nat.blt 0 m)
        · rw [hc] at he; cases he
        · rw [hc, cond_true] at he
          simp only [Bool.and_eq_true] at hc
          obtain ⟨⟨⟨c1, c2⟩, c3⟩, c4⟩ := hc
          have c1 := ble_iff.1 c1
          have c2 := blt_iff.1 c2
          have c3 := Nat.eq_of_beq_eq_true c3
          have c4 := blt_iff.1 c4
          rw [R.size_eq] at c3
          split at he
          · cases h0 : Nat.beq len 0
            · rw [h0] at he; cases he
            · rw [h0] at he; cases he
              have h0 := Nat.eq_of_beq_eq_true h0
              obtain ⟨a', q', rfl, ha, hq⟩ := (hv.toC.toS rfl).slice'
              cases a' with
              | some a' => cases ha
              | none =>
              obtain rfl := hq rfl
              simp only [o_append, hm', hn1]
              rw [if_neg (by omega)]
              refine ⟨c1, c2, by omega, c4, h0, ?_⟩
              exact new_ok hs hn2 fun b' ρ' t h' hl hb hs' => hk ρ' _ h' hl hs' (.a (.c (.s (.slice hb))))
          · rename_i b o
            obtain ⟨b', t, hρ, rfl⟩ := hv.toC.sl hcp
            simp only [o_append, hm', hn1]
            rw [if_neg (by omega)]
            refine ⟨c1, c2, by omega, c4, ?_⟩
            cases h0 : Nat.beq b 0
            · rw [h0, cond_false] at he
              have hb0 : b ≠ 0 := fun e => by rw [e] at h0; cases h0
              rw [if_neg (hs.z0' hρ hb0)]
              split at he
              · rename_i q E w' hg
                obtain ⟨cs, h1, h2⟩ := hs.cells hg hρ
                simp only [h1]
                cases hl : Nat.ble (o + len * size) q.size
                · rw [hl] at he; cases he
                · rw [hl, cond_true] at he
                  have hl := ble_iff.1 hl
                  rw [R.size_eq, h2.length] at hl
                  have hcells : All2 (RC ρ) (R.mk ((q.drop o).take (len * size)) new).toL ((cs.drop o).take (len * size) ++ ncs) := by
                    rw [R.mk_toL, R.take_toL, R.drop_toL]; exact ((h2.drop o).take _).append hn2
                  refine ⟨hl, ?_⟩
                  have rest : ∀ {r : XV × EH × Nat}, some (XV.a (.c (.slice (some ⟨n, 0, none⟩) (len + m) (len + m))), eh.set n (.cells (.mk ((q.drop o).take (len * size)) new) e .open), n + 1) = some r → Good F ρ r K →
                      o_new ((cs.drop o).take (len * size) ++ ncs) e .open h fun b h => K (.slice (some ⟨b, 0, none⟩) (len + m) (len + m)) h := by
                    intro r he hk
                    cases he
                    exact new_ok hs hcells fun b' ρ' t h' hl hb hs' => hk ρ' _ h' hl hs' (.a (.c (.s (.slice hb))))
                  cases w' with
                  | ro => exact rest he hk
                  | exact => exact rest he hk
                  | «open» =>
                    simp only at he ⊢
                    cases hx : (Nat.beq E e && Nat.beq (o + cap * size) q.size && Nat.blt 0 size)
                    · rw [hx] at he; cases he
                    · rw [hx, cond_true] at he; cases he
                      simp only [Bool.and_eq_true] at hx
                      obtain ⟨⟨x1, x2⟩, x3⟩ := hx
                      have x1 := Nat.eq_of_beq_eq_true x1
                      have x2 := Nat.eq_of_beq_eq_true x2
                      have x3 := blt_iff.1 x3
                      rw [R.size_eq, h2.length] at x2
                      refine ⟨x1, x2, x3, fun b'' g1 g2 => ?_⟩
                      have hsd := hs.del hg rfl hρ
                      have g3 : del h b' b'' = none := by
                        unfold del; split
                        · rfl
                        · exact g2
                      obtain ⟨h3, h4⟩ := hsd.new (o := .cells (R.mk ((q.drop o).take (len * size)) new) e .open) (o' := .cells ((cs.drop o).take (len * size) ++ ncs) e .open) g1 g3 undefT rfl (.cells (hcells.mono2 fun _ _ hh => hh.mono (le_new hs)))
                      exact hk _ _ _ h3 h4 (.a (.c (.s (.slice (t := undefT) (by simp)))))
              · cases he
            · rw [h0, cond_true] at he
              have hb0 := Nat.eq_of_beq_eq_true h0
              subst hb0
              obtain ⟨t', ht'⟩ := hs.z0
              rw [ht'] at hρ; cases hρ
              rw [if_pos rfl]
              cases hl : Nat.beq len 0
              · rw [hl] at he; cases he
              · rw [hl] at he; cases he
                refine ⟨Nat.eq_of_beq_eq_true hl, ?_⟩
                exact new_ok hs hn2 fun b' ρ' t h' hl hb hs' => hk ρ' _ h' hl hs' (.a (.c (.s (.slice hb))))
          · cases he
      · rw [hb, cond_true] at he
        have hb := ble_iff.1 hb
        split at he
        · rename_i b o
          obtain ⟨b', t, hρ, rfl⟩ := hv.toC.sl hcp
          simp only [o_append, hm', hn1]
          rw [if_pos hb]
          cases h0 : Nat.beq m 0
          · rw [h0, cond_false] at he
            have h0' : m ≠ 0 := fun e => by rw [e] at h0; cases h0
            rw [if_neg h0']
            split at he
            · rename_i q E w' hg
              obtain ⟨cs, h1, h2⟩ := hs.cells hg hρ
              simp only [h1]
              cases hx : (notRo w' && Nat.ble (o + (len + m) * size) q.size && Nat.beq new.size (m * size))
              · rw [hx] at he; cases he
              · rw [hx, cond_true] at he; cases he
                simp only [Bool.and_eq_true] at hx
                obtain ⟨⟨x1, x2⟩, x3⟩ := hx
                have x2 := ble_iff.1 x2
                have x3 := Nat.eq_of_beq_eq_true x3
                have e1 : (len + m) * size = len * size + m * size := Nat.add_mul _ _ _
                refine ⟨notRo_ne x1, by rw [R.size_eq, h2.length] at x2; exact x2, by rw [R.size_eq] at x3; omega, ?_⟩
                refine hk ρ _ _ (Ren.le_refl ρ) (hs.upd hg rfl hρ (.cells ?_)) (.a (.c (.s (.slice hρ))))
                rw [R.splice_toL _ _ _ (by omega)]
                exact All2.setL h2 hn2 _
            · cases he
          · rw [h0, cond_true] at he; cases he
            rw [if_pos (Nat.eq_of_beq_eq_true h0)]
            exact hk.here hs (.a hv)
        · obtain ⟨a', q', rfl, ha, hq⟩ := (hv.toC.toS rfl).slice'
          cases a' with
          | some a' => cases ha
          | none =>
          obtain rfl := hq rfl
          simp only [o_append, hm', hn1]
          rw [if_pos hb]
          cases h0 : Nat.beq m 0
          · rw [h0] at he; cases he
          · rw [h0, cond_true] at he; cases he
            exact ⟨Nat.eq_of_beq_eq_true h0, hk.here hs (.a hv)⟩
        · cases he
  · cases he
def e_copy (size : Nat) (d x : XA) (eh : EH) (n : Nat) : Res :=
  match d, lenX x with
  | .c (.slice base len _), some m => match srcR size eh x (Nat.min m len) with
    | none => none
    | some new =>
      bif Nat.beq (Nat.min m len) 0 then some (.a (.c (.int .i64 0)), eh, n) else
      match base with
      | some ⟨b, o, none⟩ => (match eh.get b with
        | some (.cells r E w) => bif notRo w && Nat.ble (o + (Nat.min m len) * size) r.size && Nat.beq new.size ((Nat.min m len) * size) then
            some (.a (.c (.int .i64 (.ofNat (Nat.min m len)))), eh.set b (.cells (r.splice o new) E w), n) else none
        | _ => none)
      | _ => none
  | _, _ => none
theorem e_copy_ok {size : Nat} {s x : XA} {v w : Value} {r : XV × EH × Nat} {K : Value → H → Prop} (hs : XSim F ρ n eh h) (hv : RA ρ s v) (hw : RA ρ x w) (he : e_copy size s x eh n = some r) (hk : Good F ρ r K) : o_copy size v w h K := by
  unfold e_copy at he
  split at he
  · rename_i base len cap m hm
    split at he
    · cases he
    · rename_i new hnew
      have hm' := lenX_ok hw hm
      obtain ⟨ncs, hn1, hn2⟩ := srcR_ok hs hw hnew
      obtain ⟨a', q', rfl, ha, hqq⟩ := (hv.toC.toS rfl).slice'
      simp only [o_copy, hm', hn1]
      cases h0 : Nat.beq (Nat.min m len) 0
      · rw [h0, cond_false] at he
        have h0' : Nat.min m len ≠ 0 := fun e => by rw [e] at h0; cases h0
        rw [if_neg h0']
        split at he
        · rename_i b o
          obtain ⟨b', t, _, hρ, e, _⟩ := hv.toC.slT
          cases e
          split at he
          · rename_i q E w' hg
            obtain ⟨cs, h1, h2⟩ := hs.cells hg hρ
            simp only [h1]
            cases hx : (notRo w' && Nat.ble (o + (Nat.min m len) * size) q.size && Nat.beq new.size ((Nat.min m len) * size))
            · rw [hx] at he; cases he
            · rw [hx, cond_true] at he; cases he
              simp only [Bool.and_eq_true] at hx
              obtain ⟨⟨x1, x2⟩, x3⟩ := hx
              have x2 := ble_iff.1 x2
              have x3 := Nat.eq_of_beq_eq_true x3
              have hl := hn2.length
              refine ⟨notRo_ne x1, by rw [R.size_eq, h2.length] at x2; exact x2, by rw [R.size_eq] at x3; omega, ?_⟩
              refine hk ρ _ _ (Ren.le_refl ρ) (hs.upd hg rfl hρ (.cells ?_)) (.a (.c (.of_self rfl)))
              rw [R.splice_toL _ _ _ (by omega)]
              exact All2.setL h2 hn2 _
          · cases he
        · cases he
      · rw [h0, cond_true] at he; cases he
        rw [if_pos (Nat.eq_of_beq_eq_true h0)]
        exact hk.here hs (.a (.c (.of_self rfl)))
  · cases he

/-! ### Strings and bytes -/
theorem bytesOf_rel : ∀ {l m : List Value} {bs : List UInt8}, All2 (RC ρ) l m → bytesOf l = some bs → bytesOf m = some bs
  | _, _, bs, .nil, he => he
  | v :: l, w :: m, bs, .cons hv ht, he => by
    unfold bytesOf at he
    split at he
    · rename_i e; cases e
    · rename_i x r e
      cases e
      obtain rfl := hv.self_eq rfl
      simp only [bytesOf]
      cases hr : bytesOf l with
      | none => rw [hr] at he; cases he
      | some q => rw [hr] at he; rw [bytesOf_rel ht hr]; exact he
    · cases he
def e_bytesToString (x : XA) (eh : EH) : Option XV :=
  match x with
  | .c (.slice none 0 0) => some (.a (.c (.string .empty)))
  | .c (.slice (some ⟨b, o, none⟩) m _) => bif Nat.beq m 0 then some (.a (.c (.string .empty))) else (match eh.get b with
    | some (.cells r _ _) => bif Nat.ble (o + m) r.size then (match bytesOf ((r.drop o).take m).toL with | some bs => some (.a (.c (.string ⟨⟨bs⟩⟩))) | none => none) else none
    | _ => none)
  | _ => none
theorem e_bytesToString_ok {x : XA} {v : Value} {r : XV} {K : Value → Prop} (hs : XSim F ρ n eh h) (hv : RA ρ x v) (he : e_bytesToString x eh = some r) (hk : ∀ u, RV ρ r u → K u) : o_bytesToString v h K := by
  unfold e_bytesToString at he
  split at he
  · cases he
    obtain rfl := hv.toC.self_eq rfl
    exact hk _ (.a (.c (.of_self rfl)))
  · rename_i b o m c
    obtain ⟨b', t, _, hρ, rfl, _⟩ := hv.toC.slT
    unfold o_bytesToString
    simp only
    cases h0 : Nat.beq m 0
    · rw [h0, cond_false] at he
      have h0' : m ≠ 0 := fun e => by rw [e] at h0; cases h0
      rw [if_neg h0']
      split at he
      · rename_i q E w hg
        obtain ⟨cs, h1, h2⟩ := hs.cells hg hρ
        cases hl : Nat.ble (o + m) q.size
        · rw [hl] at he; cases he
        · rw [hl, cond_true] at he
          have hl := ble_iff.1 hl
          rw [R.size_eq, h2.length] at hl
          split at he
          · rename_i bs hbs
            cases he
            simp only [AM.cellsAt, h1, hl, if_true]
            rw [R.take_toL, R.drop_toL] at hbs
            rw [bytesOf_rel ((h2.drop o).take m) hbs]
            exact hk _ (.a (.c (.of_self rfl)))
          · cases he
      · cases he
    · rw [h0, cond_true] at he; cases he
      rw [if_pos (Nat.eq_of_beq_eq_true h0)]
      exact hk _ (.a (.c (.of_self rfl)))
  · cases he
def e_stringToBytes (e : TypeId) (x : XA) (eh : EH) (n : Nat) : Res :=
  match x with
  | .c (.string s) => some (.a (.c (.slice (some ⟨n, 0, none⟩) s.size s.size)), eh.set n (.cells (R.ofL (s.data.toList.map fun b => Value.int .u8 b.toNat)) e .open), n + 1)
  | _ => none
theorem e_stringToBytes_ok {e : TypeId} {x : XA} {v : Value} {r : XV × EH × Nat} {K : Value → H → Prop} (hs : XSim F ρ n eh h) (hv : RA ρ x v) (he : e_stringToBytes e x eh n = some r) (hk : Good F ρ r K) : o_stringToBytes e v h K := by
  unfold e_stringToBytes at he
  split at he
  · rename_i s
    cases he
    obtain rfl := hv.toC.self_eq rfl
    refine new_ok hs (r := R.ofL (s.data.toList.map fun b => Value.int .u8 b.toNat)) ?_ fun b' ρ' t h' hl hb hs' => hk ρ' _ h' hl hs' (.a (.c (.s (.slice hb))))
    rw [R.ofL_toL]
    exact All2.refl_of fun a ha => by
      obtain ⟨b, _, rfl⟩ := List.mem_map.1 ha
      exact .of_self rfl
  · cases he
def e_lenSl (x : XA) : Option XV :=
  match x with
  | .c (.slice _ m _) => some (.a (.c (.int .i64 (.ofNat m))))
  | _ => none
theorem e_lenSl_ok {x : XA} {v : Value} {r : XV} {K : Value → Prop} (hv : RA ρ x v) (he : e_lenSl x = some r) (hk : ∀ u, RV ρ r u → K u) : o_lenSl v K := by
  unfold e_lenSl at he
  split at he
  · cases he
    obtain ⟨a', _, rfl, ha, _⟩ := (hv.toC.toS rfl).slice'
    exact hk _ (.a (.c (.of_self rfl)))
  · cases he
def e_lenStr (x : XA) : Option XV :=
  match x with
  | .c (.string s) => some (.a (.c (.int .i64 (.ofNat s.size))))
  | _ => none
theorem e_lenStr_ok {x : XA} {v : Value} {r : XV} {K : Value → Prop} (hv : RA ρ x v) (he : e_lenStr x = some r) (hk : ∀ u, RV ρ r u → K u) : o_lenStr v K := by
  unfold e_lenStr at he
  split at he
  · cases he
    obtain rfl := hv.toC.self_eq rfl
    exact hk _ (.a (.c (.of_self rfl)))
  · cases he

/-! ### Maps -/
def keyEqF : Value → Value → Bool
  | .int j a, .int k b => ieq a b && j == k
  | .string a, .string b => a == b
  | .bool a, .bool b => a == b
  | _, _ => false
theorem keyEqF_eq (a b : Value) : keyEqF a b = keyEq a b := by
  cases a <;> cases b <;> try rfl
  simp only [keyEqF, keyEq]
  rw [ieq_eq, Bool.and_comm]
  congr 1
def xfind (es : List (Value × XA)) (k : Value) : Option XA :=
  match es with
  | [] => none
  | e :: r => bif keyEqF k e.1 then some e.2 else xfind r k
def xset (es : List (Value × XA)) (k : Value) (v : XA) : List (Value × XA) :=
  match es with
  | [] => [(k, v)]
  | e :: r => bif keyEqF k e.1 then (k, v) :: r else e :: xset r k v
def xdel (es : List (Value × XA)) (k : Value) : List (Value × XA) :=
  match es with
  | [] => []
  | e :: r => bif keyEqF k e.1 then r else e :: xdel r k
abbrev RM2 (ρ : Ren) : List (Value × XA) → List (Value × Value) → Prop := All2 (fun e e' => e'.1 = e.1 ∧ RA ρ e.2 e'.2)
def RM (ρ : Ren) (es : List (Value × XA)) (es' : List (Value × Value)) : Prop := ∃ l, RM2 ρ es l ∧ l.Perm es' ∧ Dist es'
theorem RM.obj {es : List (Value × XA)} {es' : List (Value × Value)} (h : RM ρ es es') {τ : LObj} {kk : KK} {c : Nat} : RO ρ τ (.map kk es c) (.map kk es' c) := by
  obtain ⟨l, h1, h2, h3⟩ := h
  exact .map h1 h2 h3
theorem RM.length {es : List (Value × XA)} {es' : List (Value × Value)} (h : RM ρ es es') : es.length = es'.length := by
  obtain ⟨l, h1, h2, h3⟩ := h
  rw [h1.length, h2.length_eq]
theorem RM.mem {es : List (Value × XA)} {es' : List (Value × Value)} (h : RM ρ es es') {e' : Value × Value} (he : e' ∈ es') : ∃ e ∈ es, e'.1 = e.1 ∧ RA ρ e.2 e'.2 := by
  obtain ⟨l, h1, h2, h3⟩ := h
  have he := h2.mem_iff.2 he
  clear h2
  induction h1 with
  | nil => cases he
  | cons h t ih =>
    rcases List.mem_cons.1 he with rfl | he
    · exact ⟨_, .head _, h⟩
    · obtain ⟨a, ha, hr⟩ := ih he
      exact ⟨a, .tail _ ha, hr⟩
theorem RM.mem' {es : List (Value × XA)} {es' : List (Value × Value)} (h : RM ρ es es') {e : Value × XA} (he : e ∈ es) : ∃ e' ∈ es', e'.1 = e.1 ∧ RA ρ e.2 e'.2 := by
  obtain ⟨l, h1, h2, h3⟩ := h
  obtain ⟨i, hi⟩ := List.mem_iff_getElem?.1 he
  obtain ⟨w, hw, h7⟩ := h1.get hi
  exact ⟨w, h2.mem_iff.1 (List.mem_of_getElem? hw), h7⟩
theorem xfind_rel2 {k : Value} : ∀ {es : List (Value × XA)} {es' : List (Value × Value)}, RM2 ρ es es' → (∀ x, xfind es k = some x → ∃ v, mfind es' k = some v ∧ RA ρ x v) ∧ (xfind es k = none → mfind es' k = none)
  | _, _, .nil => ⟨fun x h => by simp [xfind] at h, fun _ => rfl⟩
  | _, _, .cons (a := a) (b := b) ⟨h1, h2⟩ t => by
    have ih := xfind_rel2 (k := k) t
    simp only [xfind, mfind, keyEqF_eq, h1]
    cases keyEq k a.1
    · simp only [cond_false]; exact ih
    · simp only [cond_true]
      exact ⟨fun x h => by cases h; exact ⟨_, rfl, h2⟩, fun h => by cases h⟩
theorem xfind_rel {k : Value} {es : List (Value × XA)} {es' : List (Value × Value)} (h : RM ρ es es') : (∀ x, xfind es k = some x → ∃ v, mfind es' k = some v ∧ RA ρ x v) ∧ (xfind es k = none → mfind es' k = none) := by
  obtain ⟨l, h1, h2, h3⟩ := h
  rw [← mfind_perm h2 (h3.perm h2.symm) k]
  exact xfind_rel2 h1
theorem xset_rel2 {k : Value} {x : XA} {v : Value} (hx : RA ρ x v) : ∀ {es : List (Value × XA)} {es' : List (Value × Value)}, RM2 ρ es es' → RM2 ρ (xset es k x) (mset es' k v)
  | _, _, .nil => .cons ⟨rfl, hx⟩ .nil
  | _, _, .cons (a := a) (b := b) ⟨h1, h2⟩ t => by
    simp only [xset, mset, keyEqF_eq, h1]
    cases keyEq k a.1
    · simp only [cond_false]; exact .cons ⟨h1, h2⟩ (xset_rel2 hx t)
    · simp only [cond_true]; exact .cons ⟨rfl, hx⟩ t
theorem xset_rel {k : Value} {x : XA} {v : Value} (hx : RA ρ x v) {es : List (Value × XA)} {es' : List (Value × Value)} (h : RM ρ es es') : RM ρ (xset es k x) (mset es' k v) := by
  obtain ⟨l, h1, h2, h3⟩ := h
  exact ⟨_, xset_rel2 hx h1, mset_perm h2 (h3.perm h2.symm), mset_dist h3⟩
theorem xdel_rel2 {k : Value} : ∀ {es : List (Value × XA)} {es' : List (Value × Value)}, RM2 ρ es es' → RM2 ρ (xdel es k) (mdel es' k)
  | _, _, .nil => .nil
  | _, _, .cons (a := a) (b := b) ⟨h1, h2⟩ t => by
    simp only [xdel, mdel, keyEqF_eq, h1]
    cases keyEq k a.1
    · simp only [cond_false]; exact .cons ⟨h1, h2⟩ (xdel_rel2 t)
    · simp only [cond_true]; exact t
theorem xdel_rel {k : Value} {es : List (Value × XA)} {es' : List (Value × Value)} (h : RM ρ es es') : RM ρ (xdel es k) (mdel es' k) := by
  obtain ⟨l, h1, h2, h3⟩ := h
  exact ⟨_, xdel_rel2 h1, mdel_perm h2 (h3.perm h2.symm), mdel_dist h3⟩
theorem XSim.map {b b' : Nat} {t : LObj} {kk : KK} {es : List (Value × XA)} {c : Nat} (hs : XSim F ρ n eh h) (hg : eh.get b = some (.map kk es c)) (hb : ρ b = some (b', t)) : ∃ es', h b' = some (.map kk es' c) ∧ RM ρ es es' := by
  obtain ⟨c, τ, o', h1, h2, h3⟩ := hs.obj b _ hg rfl
  rw [hb] at h1; cases h1
  cases h3 with
  | map h3 h4 h5 => exact ⟨_, h2, _, h3, h4, h5⟩
theorem kkSelf {kk : KK} {k : Value} (h : kkHas kk k = true) : selfC k = true := by
  unfold kkHas at h
  split at h <;> first | rfl | cases h
def kkEq (a b : KK) : Bool := decide (a = b)
def okTup (ok : Bool) (z : XA) (b : Bool) : XV := bif ok then .tup [z, .c (.bool b)] else .a z
theorem okTup_rv {ok b : Bool} {z : XA} {v : Value} (h : RA ρ z v) : RV ρ (okTup ok z b) (bif ok then .tuple #[v, .bool b] else v) := by
  cases ok
  · exact .a h
  · exact .tup (.cons h (.cons (.c (.of_self rfl)) .nil))
def e_lookup (kk : KK) (z x k : XA) (ok : Bool) (eh : EH) : Option XV :=
  match k with
  | .c k => bif kkHas kk k then (match x with
    | .c (.map none) => some (okTup ok z false)
    | .c (.map (some m)) => (match eh.get m with
      | some (.map kk' es _) => bif kkEq kk' kk then (match xfind es k with | some v => some (okTup ok v true) | none => some (okTup ok z false)) else none
      | _ => none)
    | _ => none) else none
  | _ => none
theorem e_lookup_ok {kk : KK} {z x k : XA} {ok : Bool} {z' v w : Value} {r : XV} {K : Value → Prop} (hs : XSim F ρ n eh h) (hz : RA ρ z z') (hv : RA ρ x v) (hw : RA ρ k w) (he : e_lookup kk z x k ok eh = some r) (hk : ∀ u, RV ρ r u → K u) : o_lookup kk z' v w ok h K := by
  unfold e_lookup at he
  split at he
  · rename_i k
    cases hh : kkHas kk k
    · rw [hh] at he; cases he
    · rw [hh, cond_true] at he
      obtain rfl := hw.toC.self_eq (kkSelf hh)
      refine ⟨hh, ?_⟩
      split at he
      · obtain rfl := hv.toC.self_eq rfl
        cases he
        exact hk _ (okTup_rv hz)
      · rename_i m
        obtain ⟨b', t, hρ, rfl⟩ := hv.toC.mp
        split at he
        · rename_i kk' es c hg
          obtain ⟨es', h1, h2⟩ := hs.map hg hρ
          cases hkk : kkEq kk' kk
          · rw [hkk] at he; cases he
          · rw [hkk, cond_true] at he
            have hkk : kk' = kk := of_decide_eq_true hkk
            simp only [h1]
            refine ⟨hkk, ?_⟩
            split at he
            · rename_i x hx
              cases he
              obtain ⟨v, h3, h4⟩ := (xfind_rel h2).1 x hx
              simp only [h3]; exact hk _ (okTup_rv h4)
            · rename_i hx
              cases he
              simp only [(xfind_rel h2).2 hx]; exact hk _ (okTup_rv hz)
        · cases he
      · cases he
  · cases he
def isSomeX : Option XA → Bool
  | some _ => true
  | none => false
theorem mhas_rel {k : Value} {es : List (Value × XA)} {es' : List (Value × Value)} (h : RM ρ es es') : mhas es' k = isSomeX (xfind es k) := by
  unfold mhas
  cases hx : xfind es k with
  | none => rw [(xfind_rel h).2 hx]; rfl
  | some x => obtain ⟨v, h1, _⟩ := (xfind_rel h).1 x hx; rw [h1]; rfl
def e_mapUpdate (kk : KK) (m k v : XA) (eh : EH) : Option EH :=
  match k, m with
  | .c k, .c (.map (some b)) => bif kkHas kk k then (match eh.get b with
    | some (.map kk' es c) => bif kkEq kk' kk then some (eh.set b (.map kk (xset es k v) (bif isSomeX (xfind es k) then c else c + 1))) else none
    | _ => none) else none
  | _, _ => none
theorem e_mapUpdate_ok {kk : KK} {m k x : XA} {m' k' v : Value} {eh' : EH} {K : H → Prop} (hs : XSim F ρ n eh h) (hm : RA ρ m m') (hkr : RA ρ k k') (hv : RA ρ x v) (he : e_mapUpdate kk m k x eh = some eh') (hk : ∀ h', XSim F ρ n eh' h' → K h') : o_mapUpdate kk m' k' v h K := by
  unfold e_mapUpdate at he
  split at he
  · rename_i k b
    cases hh : kkHas kk k
    · rw [hh] at he; cases he
    · rw [hh, cond_true] at he
      obtain rfl := hkr.toC.self_eq (kkSelf hh)
      obtain ⟨b', t, hρ, rfl⟩ := hm.toC.mp
      refine ⟨hh, hv.boxV, ?_⟩
      split at he
      · rename_i kk' es c hg
        obtain ⟨es', h1, h2⟩ := hs.map hg hρ
        cases hkk : kkEq kk' kk
        · rw [hkk] at he; cases he
        · rw [hkk, cond_true] at he
          have hkk : kk' = kk := of_decide_eq_true hkk
          cases he
          simp only [h1]
          refine ⟨hkk, hk _ (hs.upd hg rfl hρ ?_)⟩
          rw [mhas_rel h2]
          cases isSomeX (xfind es k') <;> exact (xset_rel hv h2).obj
      · cases he
  · cases he
def e_delete (kk : KK) (m k : XA) (eh : EH) : Option EH :=
  match k, m with
  | .c k, .c (.map none) => bif kkHas kk k then some eh else none
  | .c k, .c (.map (some b)) => bif kkHas kk k then (match eh.get b with
    | some (.map kk' es c) => bif kkEq kk' kk then some (eh.set b (.map kk (xdel es k) c)) else none
    | _ => none) else none
  | _, _ => none
theorem e_delete_ok {kk : KK} {m k : XA} {m' k' : Value} {eh' : EH} {K : H → Prop} (hs : XSim F ρ n eh h) (hm : RA ρ m m') (hkr : RA ρ k k') (he : e_delete kk m k eh = some eh') (hk : ∀ h', XSim F ρ n eh' h' → K h') : o_delete kk m' k' h K := by
  unfold e_delete at he
  split at he
  · rename_i k
    cases hh : kkHas kk k
    · rw [hh] at he; cases he
    · rw [hh] at he; cases he
      obtain rfl := hkr.toC.self_eq (kkSelf hh)
      obtain rfl := hm.toC.self_eq rfl
      exact ⟨hh, hk _ hs⟩
  · rename_i k b
    cases hh : kkHas kk k
    · rw [hh] at he; cases he
    · rw [hh, cond_true] at he
      obtain rfl := hkr.toC.self_eq (kkSelf hh)
      obtain ⟨b', t, hρ, rfl⟩ := hm.toC.mp
      refine ⟨hh, ?_⟩
      split at he
      · rename_i kk' es c hg
        obtain ⟨es', h1, h2⟩ := hs.map hg hρ
        cases hkk : kkEq kk' kk
        · rw [hkk] at he; cases he
        · rw [hkk, cond_true] at he
          have hkk : kk' = kk := of_decide_eq_true hkk
          cases he
          subst hkk
          simp only [h1]
          exact ⟨trivial, hk _ (hs.upd hg rfl hρ (xdel_rel h2).obj)⟩
      · cases he
  · cases he
def e_lenMap (x : XA) (eh : EH) : Option XV :=
  match x with
  | .c (.map none) => some (.a (.c (.int .i64 0)))
  | .c (.map (some m)) => (match eh.get m with
    | some (.map _ es _) => some (.a (.c (.int .i64 (.ofNat es.length))))
    | _ => none)
  | _ => none
theorem e_lenMap_ok {x : XA} {v : Value} {r : XV} {K : Value → Prop} (hs : XSim F ρ n eh h) (hv : RA ρ x v) (he : e_lenMap x eh = some r) (hk : ∀ u, RV ρ r u → K u) : o_lenMap v h K := by
  unfold e_lenMap at he
  split at he
  · cases he
    obtain rfl := hv.toC.self_eq rfl
    exact hk _ (.a (.c (.of_self rfl)))
  · obtain ⟨b', t, hρ, rfl⟩ := hv.toC.mp
    split at he
    · rename_i kk es c hg
      cases he
      obtain ⟨es', h1, h2⟩ := hs.map hg hρ
      unfold o_lenMap
      simp only [h1, ← h2.length]
      exact hk _ (.a (.c (.of_self rfl)))
    · cases he
  · cases he
def e_makeMap (P : Program) (t : TypeId) (r : Option XA) (eh : EH) (n : Nat) : Res :=
  match P.underlying t, r with
  | some (.map kt _), none | some (.map kt _), some (.c (.int _ _)) => (match kkOf P kt with
    | some kk => some (.a (.c (.map (some n))), eh.set n (.map kk [] 0), n + 1)
    | none => none)
  | _, _ => none
theorem e_makeMap_ok {t : TypeId} {x : Option XA} {v : Option Value} {r : XV × EH × Nat} {K : Value → H → Prop} (hs : XSim F ρ n eh h) (hv : ROpt ρ x v) (he : e_makeMap P t x eh n = some r) (hk : Good F ρ r K) :
    (match (generalizing := false) P.underlying t, v with
    | some (.map kt _), none | some (.map kt _), some (.int _ _) => (match kkOf P kt with | some kk => o_newObj (.map kk [] 0) h fun b h => K (.map (some b)) h | none => False)
    | _, _ => False) := by
  have fin : ∀ kk, (∀ r', r' = r → r = (.a (.c (.map (some n))), eh.set n (.map kk [] 0), n + 1) → o_newObj (.map kk [] 0) h fun b h => K (.map (some b)) h) := by
    intro kk r' _ hr
    subst hr
    exact newObj_ok hs rfl (.map .nil (.refl _) .nil) fun b' ρ' t h' hl hb hs' => hk ρ' _ h' hl hs' (.a (.c (.s (.map hb))))
  unfold e_makeMap at he
  cases hu : P.underlying t with
  | none => rw [hu] at he; cases he
  | some d =>
    rw [hu] at he
    cases d <;> try (cases he; done)
    rename_i kt et
    cases hv with
    | none =>
      simp only at he
      split at he
      · rename_i kk hkk; cases he; simp only [hkk]; exact fin kk _ rfl rfl
      · cases he
    | some hv =>
      rename_i x v
      cases x with
      | agg q => cases he
      | c u =>
        cases u <;> try (cases he; done)
        obtain rfl := hv.toC.self_eq rfl
        simp only at he
        cases hkk : kkOf P kt with
        | none => rw [hkk] at he; cases he
        | some kk => rw [hkk] at he; cases he; simp only [hkk]; exact fin kk _ rfl rfl
def e_range (x : XA) (eh : EH) (n : Nat) : Res :=
  match x with
  | .c (.map none) => some (.a (.c (.pointer (some ⟨n, 0, none⟩))), eh.set n (.iter none [] 0 none), n + 1)
  | .c (.map (some m)) => (match eh.get m with
    | some (.map _ es c) => some (.a (.c (.pointer (some ⟨n, 0, none⟩))), eh.set n (.iter (some m) (es.map (·.1)) c none), n + 1)
    | _ => none)
  | _ => none
theorem RM.keys {es : List (Value × XA)} {es' : List (Value × Value)} (h : RM ρ es es') : (es.map (·.1)).Perm (es'.map (·.1)) := by
  obtain ⟨l, h1, h2, _⟩ := h
  refine List.Perm.trans (.of_eq ?_) (h2.map _)
  clear h2
  induction h1 with
  | nil => rfl
  | cons h _ ih => simp only [List.map_cons, h.1, ih]
theorem e_range_ok {x : XA} {v : Value} {r : XV × EH × Nat} {K : Value → H → Prop} (hs : XSim F ρ n eh h) (hv : RA ρ x v) (he : e_range x eh n = some r) (hk : Good F ρ r K) : o_range v h K := by
  unfold e_range at he
  split at he
  · cases he
    obtain rfl := hv.toC.self_eq rfl
    exact newObj_ok hs rfl .iterN fun b' ρ' t h' hl hb hs' => hk ρ' _ h' hl hs' (.a (.c (.s (.ptr hb))))
  · obtain ⟨b', t, hρ, rfl⟩ := hv.toC.mp
    split at he
    · rename_i kk es c hg
      cases he
      obtain ⟨es', h1, h2⟩ := hs.map hg hρ
      unfold o_range
      simp only [h1]
      exact newObj_ok hs rfl (.iter hρ (RM.keys h2)) fun b' ρ' t h' hl hb hs' => hk ρ' _ h' hl hs' (.a (.c (.s (.ptr hb))))
    · cases he
  · cases he

/-- The next entry, where none or one alone is left. -/
def leftOf (left : List Value) : List (Value × XA) → List (Value × XA)
  | [] => []
  | e :: es => bif left.any (keyEq e.1) then e :: leftOf left es else leftOf left es
theorem leftOf_mem {left : List Value} : ∀ {es : List (Value × XA)} {e : Value × XA}, e ∈ leftOf left es ↔ e ∈ es ∧ left.any (keyEq e.1) = true
  | [], e => by simp [leftOf]
  | x :: es, e => by
    simp only [leftOf]
    cases h : left.any (keyEq x.1)
    · simp only [cond_false, leftOf_mem, List.mem_cons]
      constructor
      · rintro ⟨h1, h2⟩; exact ⟨.inr h1, h2⟩
      · rintro ⟨rfl | h1, h2⟩
        · rw [h] at h2; cases h2
        · exact ⟨h1, h2⟩
    · simp only [cond_true, List.mem_cons, leftOf_mem]
      constructor
      · rintro (rfl | ⟨h1, h2⟩)
        · exact ⟨.inl rfl, h⟩
        · exact ⟨.inr h1, h2⟩
      · rintro ⟨rfl | h1, h2⟩
        · exact .inl rfl
        · exact .inr ⟨h1, h2⟩
def e_next (it : XA) (eh : EH) (n : Nat) : Res :=
  match it with
  | .c (.pointer (some ⟨b, 0, none⟩)) => (match eh.get b with
    | some (.iter none _ _ _) => some (.tup [.c (.bool false)], eh, n)
    | some (.iter (some m) left since _) => (match eh.get m with
      | some (.map _ es c) => bif Nat.beq c since then (match leftOf left es with
        | [] => some (.tup [.c (.bool false)], eh, n)
        | [e] => bif selfC e.1 then some (.tup [.c (.bool true), .c e.1, e.2], eh.set b (.iter (some m) (left.filter fun k => !keyEq e.1 k) since (some e.1)), n) else none
        | _ => none) else none
      | _ => none)
    | _ => none)
  | _ => none
theorem all2_mem {α β : Type} {R : α → β → Prop} : ∀ {l : List α} {m : List β}, All2 R l m → ∀ b ∈ m, ∃ a ∈ l, R a b
  | _, _, .nil, b, hb => by cases hb
  | _, _, .cons h t, b, hb => by
    rcases List.mem_cons.1 hb with rfl | hb
    · exact ⟨_, .head _, h⟩
    · obtain ⟨a, ha, hr⟩ := all2_mem t b hb
      exact ⟨a, .tail _ ha, hr⟩
theorem e_next_ok {x : XA} {v : Value} {r : XV × EH × Nat} {K : Value → H → Prop} (hs : XSim F ρ n eh h) (hv : RA ρ x v) (he2 : e_next x eh n = some r) (hk : Good F ρ r K) : o_next v h K := by
  unfold e_next at he2
  split at he2
  · rename_i b
    obtain ⟨b', t, hρ, rfl⟩ := hv.toC.ptr
    split at he2
    · rename_i left since cur hg
      cases he2
      obtain ⟨c, τ, o', h1, h2, h3⟩ := hs.obj b _ hg rfl
      rw [hρ] at h1; cases h1
      cases h3
      unfold o_next
      simp only [h2]
      exact hk.here hs (.tup (.cons (.c (.of_self rfl)) .nil))
    · rename_i m left since cur hg
      obtain ⟨c, τ, o', h1, h2, h3⟩ := hs.obj b _ hg rfl
      rw [hρ] at h1; cases h1
      cases h3 with
      | iter hm hlp =>
        rename_i m' t' left'
        have hany : ∀ k, left'.any (keyEq k) = left.any (keyEq k) := fun k => hlp.any_eq.symm
        split at he2
        · rename_i kk es cl hgm
          obtain ⟨es', g1, g2⟩ := hs.map hgm hm
          cases hb : Nat.beq cl since
          · rw [hb] at he2; cases he2
          · rw [hb, cond_true] at he2
            have hb := Nat.eq_of_beq_eq_true hb
            unfold o_next
            simp only [h2, g1]
            refine ⟨hb, ?_⟩
            split at he2
            · rename_i hl
              cases he2
              refine ⟨fun e he' hany' => ?_, fun _ => hk.here hs (.tup (.cons (.c (.of_self rfl)) .nil))⟩
              obtain ⟨a, ha, h5, h6⟩ := g2.mem he'
              have : a ∈ leftOf left es := leftOf_mem.2 ⟨ha, by rw [← h5, ← hany]; exact hany'⟩
              rw [hl] at this; cases this
            · rename_i e0 hl
              cases hself : selfC e0.1
              · rw [hself] at he2; cases he2
              rw [hself] at he2; cases he2
              refine ⟨fun e he' hany' => ?_, fun hall => ?_⟩
              · obtain ⟨a, ha, h5, h6⟩ := g2.mem he'
                have hmem : a ∈ leftOf left es := leftOf_mem.2 ⟨ha, by rw [← h5, ← hany]; exact hany'⟩
                rw [hl] at hmem
                have hae : a = e0 := by simpa using hmem
                subst hae
                rw [h5]
                refine hk ρ _ _ (Ren.le_refl ρ) (hs.upd hg rfl hρ (.iter hm (hlp.filter _))) (.tup (.cons (.c (.of_self rfl)) (.cons (.c (.of_self hself)) (.cons h6 .nil))))
              · exfalso
                have hmem : e0 ∈ leftOf left es := by rw [hl]; simp
                obtain ⟨h5, h6⟩ := leftOf_mem.1 hmem
                obtain ⟨w, hw, h7, _⟩ := g2.mem' h5
                have := hall w hw
                rw [h7, hany, h6] at this; cases this
            · cases he2
        · cases he2
    · cases he2
  · cases he2
def e_entry (it : XA) (eh : EH) : Option XV :=
  match it with
  | .c (.pointer (some ⟨b, 0, none⟩)) => (match eh.get b with
    | some (.iter (some m) _ since (some k)) => (match eh.get m with
      | some (.map _ es c) => bif Nat.beq c since && selfC k then (match xfind es k with | some v => some (.tup [.c k, v]) | none => none) else none
      | _ => none)
    | _ => none)
  | _ => none
theorem e_entry_ok {x : XA} {v : Value} {r : XV} {K : Value → Prop} (hs : XSim F ρ n eh h) (hv : RA ρ x v) (he : e_entry x eh = some r) (hk : ∀ u, RV ρ r u → K u) : o_entry v h K := by
  unfold e_entry at he
  split at he
  · rename_i b
    obtain ⟨b', t, hρ, rfl⟩ := hv.toC.ptr
    split at he
    · rename_i m left since k hg
      obtain ⟨c, τ, o', h1, h2, h3⟩ := hs.obj b _ hg rfl
      rw [hρ] at h1; cases h1
      cases h3 with
      | iter hm hlp =>
        split at he
        · rename_i kk es cl hgm
          obtain ⟨es', g1, g2⟩ := hs.map hgm hm
          cases hb : (Nat.beq cl since && selfC k)
          · rw [hb] at he; cases he
          · rw [hb, cond_true] at he
            simp only [Bool.and_eq_true] at hb
            split at he
            · rename_i xv hx
              cases he
              obtain ⟨w, h4, h5⟩ := (xfind_rel g2).1 xv hx
              unfold o_entry
              simp only [h2, g1, h4]
              exact ⟨Nat.eq_of_beq_eq_true hb.1, hk _ (.tup (.cons (.c (.of_self hb.2)) (.cons h5 .nil)))⟩
            · cases he
        · cases he
    · cases he
  · cases he
def e_mark (x : XA) (eh : EH) : Option XV :=
  match x with
  | .c (.slice (some ⟨b, o, none⟩) m c) => (match eh.get b with
    | some (.cells _ _ w) => bif notRo w then some (.a x) else none
    | _ => none)
  | _ => none
theorem e_mark_ok {x : XA} {v : Value} {r : XV} {K : Value → Prop} (hs : XSim F ρ n eh h) (hv : RA ρ x v) (he : e_mark x eh = some r) (hk : ∀ u, RV ρ r u → K u) : o_mark v h K := by
  unfold e_mark at he
  split at he
  · rename_i b o m c
    obtain ⟨b', t, _, hρ, rfl, _⟩ := hv.toC.slT
    split at he
    · rename_i q E w hg
      obtain ⟨cs, h1, h2⟩ := hs.cells hg hρ
      cases hb : notRo w
      · rw [hb] at he; cases he
      · rw [hb] at he; cases he
        unfold o_mark
        simp only [h1]
        exact ⟨notRo_ne hb, hk _ (.a hv)⟩
    · cases he
  · cases he

/-! ### Function and interface values -/
def plainX (v : Value) : Bool := match v with | .chan (some _) => true | _ => plainC v
theorem plainC_rs {v w : Value} (h : RC ρ v w) (hp : plainX v = true) : RS ρ v w ∧ plainC w = true := by
  cases h with
  | s h =>
    refine ⟨h, ?_⟩
    cases h with
    | self h =>
      cases v <;> first | exact hp | simp [selfC] at h
    | ptr => rfl
    | slice => rfl
    | map => rfl
    | sliceT => rfl
    | tok _ hv hg => obtain ⟨_, rfl, _⟩ := tok_int hg hv; rfl
  | func => simp [plainX, plainC] at hp
  | yield => simp [plainX, plainC] at hp
  | iface => simp [plainX, plainC] at hp
def e_makeInterface (P : Program) (t : TypeId) (x : XA) : Option XV :=
  match P.underlying t, x with
  | some (.interface _), _ | none, _ => none
  | some _, .c v => bif plainX v then some (.a (.c (.iface t v))) else none
  | _, _ => none
def plainXs : List XA → Option (List Value)
  | [] => some []
  | .c v :: l => bif plainX v then (match plainXs l with | some r => some (v :: r) | none => none) else none
  | _ => none
theorem plainXs_ok : ∀ {l : List XA} {m : List Value} {r : List Value}, All2 (RA ρ) l m → plainXs l = some r → m.all plainC = true ∧ All2 (RS ρ) r m
  | [], _, r, .nil, he => by cases he; exact ⟨rfl, .nil⟩
  | .agg _ :: l, _, r, .cons h t, he => by simp [plainXs] at he
  | .c v :: l, w :: m, r, .cons h t, he => by
    simp only [plainXs] at he
    cases hp : plainX v
    · rw [hp] at he; cases he
    · rw [hp, cond_true] at he
      split at he
      · rename_i r' hr
        cases he
        obtain ⟨h1, h2⟩ := plainXs_ok t hr
        obtain ⟨h3, h4⟩ := plainC_rs h.toC hp
        exact ⟨by simp only [List.all_cons, h4, h1, Bool.and_self], .cons h3 h2⟩
      · cases he
def e_makeFunc (f : Fn) (first captured : List XA) : Option XV :=
  match f with
  | .func f => (match plainXs first, plainXs captured with
    | some a, some c => some (.a (.c (.func (.func f) ⟨a⟩ ⟨c⟩)))
    | _, _ => none)
  | _ => none
end
end
end Go.Proofs.YtbmfblmebhobiaaGreat.AM

/-
  The executor's operations put together: an operation of a region, calls by what is known of callees.
-/
set_option linter.unusedSimpArgs false
set_option linter.unusedVariables false
namespace Go.Proofs.YtbmfblmebhobiaaGreat.AM
noncomputable section

def evO (t : XT) : Operand → Option XV
  | .tmp i => t.get i
  | .const (.int k n) => some (.a (.c (.int k n)))
  | .const v => bif selfV v then some (XV.ofV v) else none
  | .func f => some (.a (.c (.func (.func f) #[] #[])))
  | .global _ => none
def evA (t : XT) (x : Operand) : Option XA :=
  match evO t x with
  | some (.a x) => some x
  | _ => none
def evAs (t : XT) : List Operand → Option (List XA)
  | [] => some []
  | x :: l => match evA t x with
    | some v => (match evAs t l with | some r => some (v :: r) | none => none)
    | none => none
def evP (t : XT) : List (Nat × Operand) → Option (List (Nat × XA))
  | [] => some []
  | p :: l => match evA t p.2 with
    | some v => (match evP t l with | some r => some ((p.1, v) :: r) | none => none)
    | none => none
/-- An operand that may be missing: none: it is not known. -/
def evOpt (t : XT) : Option Operand → Option (Option XA)
  | none => some none
  | some x => match evA t x with
    | some v => some (some v)
    | none => none

section
variable {P : Program} {F : H} {ρ : Ren} {n : Nat} {eh : EH} {h : H}
theorem evO_ok {t : XT} {T : T} (ht : TR ρ t T) : ∀ {x : Operand} {v : XV}, evO t x = some v → RV ρ v (aev T x) := by
  intro x v he
  unfold evO at he
  split at he
  · exact ht _ _ he
  · cases he; exact .a (.c (.of_self rfl))
  · rename_i u _
    cases hs : selfV u
    · rw [hs] at he; cases he
    · rw [hs] at he; cases he; exact RV.ofV hs
  · cases he; exact .a (.c (.func _ .nil .nil))
  · cases he
theorem evA_ok {t : XT} {T : T} (ht : TR ρ t T) {x : Operand} {v : XA} (he : evA t x = some v) : RA ρ v (aev T x) := by
  unfold evA at he
  split at he
  · rename_i u hu
    cases he
    have := evO_ok ht hu
    cases this; assumption
  · cases he
theorem evAs_ok {t : XT} {T : T} (ht : TR ρ t T) : ∀ {l : List Operand} {r : List XA}, evAs t l = some r → All2 (RA ρ) r (l.map (aev T))
  | [], r, he => by cases he; exact .nil
  | x :: l, r, he => by
    simp only [evAs] at he
    split at he
    · rename_i v hv
      split at he
      · rename_i r' hr
        cases he
        exact .cons (evA_ok ht hv) (evAs_ok ht hr)
      · cases he
    · cases he
theorem evP_ok {t : XT} {T : T} (ht : TR ρ t T) : ∀ {l : List (Nat × Operand)} {r : List (Nat × XA)}, evP t l = some r → All2 (fun a b => b.1 = a.1 ∧ RA ρ a.2 b.2) r (l.map fun p => (p.1, aev T p.2))
  | [], r, he => by cases he; exact .nil
  | x :: l, r, he => by
    simp only [evP] at he
    split at he
    · rename_i v hv
      split at he
      · rename_i r' hr
        cases he
        exact .cons ⟨rfl, evA_ok ht hv⟩ (evP_ok ht hr)
      · cases he
    · cases he
theorem evOpt_ok {t : XT} {T : T} (ht : TR ρ t T) {x : Option Operand} {r : Option XA} (he : evOpt t x = some r) : ROpt ρ r (x.map (aev T)) := by
  unfold evOpt at he
  split at he
  · cases he; exact .none
  · split at he
    · rename_i v hv
      cases he; exact .some (evA_ok ht hv)
    · cases he

abbrev CallF := FuncId → List XA → EH → Nat → Res
abbrev YieldF := Nat → List XA → EH → Nat → Res
def CPost (F : H) (ρ : Ren) (r : XV × EH × Nat) : Value → H → Prop := fun v' h' => ∃ ρ', ρ.le ρ' ∧ XSim F ρ' r.2.2 r.2.1 h' ∧ RV ρ' r.1 v'
def CallOk (P : Program) (C : CallF) : Prop := ∀ f args eh n r, C f args eh n = some r → ∀ F ρ h args', XSim F ρ n eh h → All2 (RA ρ) args args' → Spec P f args' h (CPost F ρ r)
def YieldOk (P : Program) (Y : YieldF) : Prop := ∀ b args eh n r, Y b args eh n = some r → ∀ F ρ h args' b' t, XSim F ρ n eh h → ρ b = some (b', t) → All2 (RA ρ) args args' → YSpec P b' args' h (CPost F ρ r)
theorem CPost.good {r : XV × EH × Nat} {K : Value → H → Prop} (hk : Good F ρ r K) : ∀ v h, CPost F ρ r v h → K v h := fun v h ⟨ρ', h1, h2, h3⟩ => hk ρ' v h h1 h2 h3
theorem all_box {l : List XA} {m : List Value} (h : All2 (RA ρ) l m) : m.all boxV = true := by
  induction h with
  | nil => rfl
  | cons h _ ih => simp only [List.all_cons, h.boxV, ih, Bool.and_self]
theorem rs_ra {l m : List Value} (h : All2 (RS ρ) l m) : All2 (RA ρ) (l.map .c) m := by
  induction h with
  | nil => exact .nil
  | cons h _ ih => exact .cons (.c (.s h)) ih

def rV (x : Option XV) (eh : EH) (n : Nat) : Res := match x with | some v => some (v, eh, n) | none => none
def uX : XV := .tup []
def rH (x : Option EH) (n : Nat) : Res := match x with | some eh => some (uX, eh, n) | none => none
theorem undef_rv : RV ρ uX undef := .tup .nil
theorem rV_ok {x : Option XV} {r : XV × EH × Nat} (he : rV x eh n = some r) : ∃ v, x = some v ∧ r = (v, eh, n) := by
  unfold rV at he
  cases x with
  | none => cases he
  | some v => cases he; exact ⟨v, rfl, rfl⟩
theorem rH_ok {x : Option EH} {r : XV × EH × Nat} (he : rH x n = some r) : ∃ e, x = some e ∧ r = (uX, e, n) := by
  unfold rH at he
  cases x with
  | none => cases he
  | some v => cases he; exact ⟨v, rfl, rfl⟩
def b1 {α : Type} (t : XT) (x : Operand) (f : XA → Option α) : Option α := match evA t x with | some v => f v | none => none
def b2 {α : Type} (t : XT) (x y : Operand) (f : XA → XA → Option α) : Option α := match evA t x with | some v => (match evA t y with | some w => f v w | none => none) | none => none
theorem b1_ok {α : Type} {t : XT} {x : Operand} {f : XA → Option α} {r : α} (he : b1 t x f = some r) : ∃ v, evA t x = some v ∧ f v = some r := by
  unfold b1 at he
  split at he
  · exact ⟨_, by assumption, he⟩
  · cases he
theorem b2_ok {α : Type} {t : XT} {x y : Operand} {f : XA → XA → Option α} {r : α} (he : b2 t x y f = some r) : ∃ v w, evA t x = some v ∧ evA t y = some w ∧ f v w = some r := by
  unfold b2 at he
  split at he
  · split at he
    · exact ⟨_, _, by assumption, by assumption, he⟩
    · cases he
  · cases he
def e_dyn (P : Program) (C : CallF) (Y : YieldF) (f : XA) (args : List XA) (eh : EH) (n : Nat) : Res :=
  match f with
  | .c (.func (.func f) ⟨first⟩ ⟨captured⟩) => bif hasBody P f then C f (first.map .c ++ args ++ captured.map .c) eh n else none
  | .c (.func (.yield r) ⟨[]⟩ ⟨[]⟩) => Y r args eh n
  | _ => none
def e_builtin (P : Program) (b : Builtin) (args : List Operand) (tys : List TypeId) (t : XT) (eh : EH) (n : Nat) : Res :=
  match b, args, tys with
  | .len, [x], [ty] => (match P.underlying ty with
    | some .string => rV (b1 t x e_lenStr) eh n
    | some (.slice _) => rV (b1 t x e_lenSl) eh n
    | some (.map _ _) => rV (b1 t x fun x => e_lenMap x eh) eh n
    | some (.array m _) => some (.a (.c (.int .i64 (.ofNat m))), eh, n)
    | _ => none)
  | .append, [s, x], [ty, u] => (match P.underlying ty, P.underlying u with
    | some (.slice e), some (.slice _) | some (.slice e), some .string => (match P.info? e, zeroX P e with
      | some i, some z => bif Nat.beq z.cellsR.size i.size then b2 t s x fun s x => e_append e i.size i.bytes s x eh n else none
      | _, _ => none)
    | _, _ => none)
  | .copy, [d, x], [ty, _] => (match P.underlying ty with
    | some (.slice e) => (match P.info? e with | some i => b2 t d x fun d x => e_copy i.size d x eh n | none => none)
    | _ => none)
  | .delete, [m, k], [ty, _] => (match P.underlying ty with
    | some (.map kt _) => (match kkOf P kt with | some kk => rH (b2 t m k fun m k => e_delete kk m k eh) n | none => none)
    | _ => none)
  | .min, [x, y], _ => rV (b2 t x y (e_minmax P Builtin.min2)) eh n
  | .max, [x, y], _ => rV (b2 t x y (e_minmax P Builtin.max2)) eh n
  | _, _, _ => none
def e_call (P : Program) (C : CallF) (Y : YieldF) (c : Call) (t : XT) (eh : EH) (n : Nat) : Res :=
  match c.callee with
  | .value (.func f) => bif hasBody P f then (match evAs t c.args.toList with | some l => C f l eh n | none => none) else none
  | .value (.tmp i) => b1 t (.tmp i) fun f => (match evAs t c.args.toList with | some l => e_dyn P C Y f l eh n | none => none)
  | .builtin b => e_builtin P b c.args.toList c.argTypes.toList t eh n
  | _ => none
theorem e_dyn_ok {C : CallF} {Y : YieldF} (hC : CallOk P C) (hY : YieldOk P Y) {f : XA} {args : List XA} {f' : Value} {args' : List Value} {r : XV × EH × Nat} {K : Value → H → Prop} (hs : XSim F ρ n eh h) (hf : RA ρ f f') (ha : All2 (RA ρ) args args')
    (he : e_dyn P C Y f args eh n = some r) (hk : Good F ρ r K) : o_dyn P f' args' h K := by
  unfold e_dyn at he
  refine ⟨all_box ha, ?_⟩
  split at he
  · rename_i f first captured
    cases hb : hasBody P f
    · rw [hb] at he; cases he
    · rw [hb, cond_true] at he
      have key : ∀ xs ys, All2 (RS ρ) first xs → All2 (RS ρ) captured ys → Spec P f (xs ++ args' ++ ys) h K := fun xs ys h1 h2 =>
        (hC _ _ _ _ _ he F ρ h _ hs (((rs_ra h1).append ha).append (rs_ra h2))).mono (CPost.good hk)
      have hc := hf.toC
      cases hc with
      | s hc => cases hc with
        | self hself =>
          simp [selfC] at hself
          obtain ⟨rfl, rfl⟩ := hself
          exact ⟨hb, key [] [] .nil .nil⟩
      | func _ h1 h2 => exact ⟨hb, key _ _ h1 h2⟩
  · rename_i b
    have hc := hf.toC
    cases hc with
    | s hc => cases hc with | self hself => simp [selfC] at hself
    | yield hb =>
      refine ⟨rfl, rfl, ?_⟩
      exact (hY _ _ _ _ _ he F ρ h _ _ _ hs hb ha).mono (CPost.good hk)
  · cases he
theorem e_call_ok {C : CallF} {Y : YieldF} (hC : CallOk P C) (hY : YieldOk P Y) {c : Call} {t : XT} {T : T} {r : XV × EH × Nat} {K : Value → H → Prop} (hs : XSim F ρ n eh h) (ht : TR ρ t T)
    (he : e_call P C Y c t eh n = some r) (hk : Good F ρ r K) : aCall P c (aev T) h K := by
  have hv : ∀ {x : XV}, r = (x, eh, n) → ∀ u, RV ρ x u → K u h := by
    intro x hr u hu
    subst hr
    exact hk.here hs hu
  unfold e_call at he
  unfold aCall
  split at he
  · rename_i f hcal
    rw [hcal]
    cases hb : hasBody P f
    · rw [hb] at he; cases he
    · rw [hb, cond_true] at he
      split at he
      · rename_i l hl
        have ha := evAs_ok ht hl
        show (bif hasBody P f then o_call P f (c.args.toList.map (aev T)) h K else False)
        rw [hb, cond_true]
        exact ⟨all_box ha, (hC _ _ _ _ _ he F ρ h _ hs ha).mono (CPost.good hk)⟩
      · cases he
  · rename_i i hcal
    rw [hcal]
    obtain ⟨f, h1, h2⟩ := b1_ok he
    split at h2
    · rename_i l hl
      exact e_dyn_ok hC hY hs (evA_ok ht h1) (evAs_ok ht hl) h2 hk
    · cases h2
  rotate_left
  · cases he
  rename_i b hcal
  rw [hcal]
  unfold e_builtin at he
  split at he
  · rename_i x ty hargs htys
    rw [hargs, htys]
    simp only
    split at he <;> rename_i hu
    · obtain ⟨v, h1, hr⟩ := rV_ok he
      obtain ⟨a, h2, h3⟩ := b1_ok h1
      simp only [hu]; exact e_lenStr_ok (evA_ok ht h2) h3 (hv hr)
    · obtain ⟨v, h1, hr⟩ := rV_ok he
      obtain ⟨a, h2, h3⟩ := b1_ok h1
      simp only [hu]; exact e_lenSl_ok (evA_ok ht h2) h3 (hv hr)
    · obtain ⟨v, h1, hr⟩ := rV_ok he
      obtain ⟨a, h2, h3⟩ := b1_ok h1
      simp only [hu]; exact e_lenMap_ok hs (evA_ok ht h2) h3 (hv hr)
    · simp only [hu]
      cases he
      exact hv rfl _ (.a (.c (.of_self rfl)))
    · cases he
  · rename_i s x ty u hargs htys
    rw [hargs, htys]
    simp only
    have fin : ∀ e, (match P.info? e, zeroX P e with
        | some i, some z => bif Nat.beq z.cellsR.size i.size then b2 t s x fun s x => e_append e i.size i.bytes s x eh n else none
        | _, _ => none) = some r → (match P.info? e, zeroOf P e with
        | some i, some z => bif z.cells.size == i.size then o_append e i.size i.bytes (aev T s) (aev T x) h K else False
        | _, _ => False) := by
      intro e he
      split at he
      · rename_i i z hi hz
        obtain ⟨z', h1, h2⟩ := zeroX_ok (ρ := ρ) hz
        cases hb : Nat.beq z.cellsR.size i.size
        · rw [hb] at he; cases he
        · rw [hb, cond_true] at he
          have hb := Nat.eq_of_beq_eq_true hb
          obtain ⟨a, b, g1, g2, g3⟩ := b2_ok he
          have hl := h2.cells.length
          rw [R.size_eq] at hb
          simp only [hi, h1]
          have : (z'.cells.size == i.size) = true := by simp only [Array.length_toList] at hl; rw [beq_iff_eq]; omega
          rw [this, cond_true]
          exact e_append_ok hs (evA_ok ht g1) (evA_ok ht g2) g3 hk
      · cases he
    split at he
    · rename_i e _ h1 h2; simp only [h1, h2]; exact fin e he
    · rename_i e h1 h2; simp only [h1, h2]; exact fin e he
    · cases he
  · rename_i d x ty u hargs htys
    rw [hargs, htys]
    simp only
    split at he
    · rename_i e hu
      split at he
      · rename_i i hi
        obtain ⟨a, b, g1, g2, g3⟩ := b2_ok he
        simp only [hu, hi]
        exact e_copy_ok hs (evA_ok ht g1) (evA_ok ht g2) g3 hk
      · cases he
    · cases he
  · rename_i m k ty u hargs htys
    rw [hargs, htys]
    simp only
    split at he
    · rename_i kt _ hu
      split at he
      · rename_i kk hkk
        obtain ⟨e, h1, rfl⟩ := rH_ok he
        obtain ⟨a, b, g1, g2, g3⟩ := b2_ok h1
        simp only [hu, hkk]
        exact e_delete_ok hs (evA_ok ht g1) (evA_ok ht g2) g3 fun h' hs' => hk _ _ _ (Ren.le_refl ρ) hs' undef_rv
      · cases he
    · cases he
  · rename_i x y hargs
    rw [hargs]
    simp only
    obtain ⟨v, h1, hr⟩ := rV_ok he
    obtain ⟨a, b, g1, g2, g3⟩ := b2_ok h1
    exact e_minmax_ok (evA_ok ht g1) (evA_ok ht g2) g3 (hv hr)
  · rename_i x y hargs
    rw [hargs]
    simp only
    obtain ⟨v, h1, hr⟩ := rV_ok he
    obtain ⟨a, b, g1, g2, g3⟩ := b2_ok h1
    exact e_minmax_ok (evA_ok ht g1) (evA_ok ht g2) g3 (hv hr)
  · cases he

def e_op (P : Program) (C : CallF) (Y : YieldF) (op : Op) (t : XT) (eh : EH) (n : Nat) : Res :=
  match op with
  | .move x | .assign x => rV (evO t x) eh n
  | .pick c a b => (match evA t c with
    | some (.c (.bool q)) => rV (evO t (bif q then a else b)) eh n
    | _ => none)
  | .alloc E => e_alloc P E eh n
  | .box E x => b1 t x fun x => e_box E x eh n
  | .build ty ps => (match evP t ps.toList with | some l => rV (e_build P ty l) eh n | none => none)
  | .buildSlice ty m ps => (match evP t ps.toList with | some l => e_buildSlice P ty m l eh n | none => none)
  | .load ty a => (match tySize P ty with | some (ag, k) => rV (b1 t a fun a => e_load ag k a eh) eh n | none => none)
  | .store ty a x => (match tySize P ty with | some (_, k) => rH (b2 t a x fun a x => e_store k a x eh) n | none => none)
  | .nilCheck x => rV (b1 t x e_nilCheck) eh n
  | .binOp op xt x y _ => rV (b2 t x y fun x y => e_bin P op xt x y) eh n
  | .unOp op _ x => rV (b1 t x (e_un P op)) eh n
  | .convert src dst x => (match P.underlying dst, P.underlying src with
    | some (.int k), some (.int _) => rV (b1 t x (e_conv k)) eh n
    | some .string, some .string => rV (b1 t x e_convStr) eh n
    | some .string, some (.slice e) => (match P.underlying e with | some (.int .u8) => rV (b1 t x fun x => e_bytesToString x eh) eh n | _ => none)
    | some (.slice e), some .string => (match P.underlying e, P.info? e with | some (.int .u8), some i => bif Nat.beq i.size 1 then b1 t x fun x => e_stringToBytes e x eh n else none | _, _ => none)
    | some (.slice e), some (.slice _) => (match P.underlying e with | some (.int .u8) => bif Nat.beq src dst then rV (b1 t x fun x => e_mark x eh) eh n else none | _ => none)
    | _, _ => none)
  | .makeInterface ty x => rV (b1 t x (e_makeInterface P ty)) eh n
  | .makeFunc f first captured => (match evAs t first.toList, evAs t captured.toList with
    | some a, some c => rV (e_makeFunc f a c) eh n
    | _, _ => none)
  | .makeMap ty r => (match evOpt t r with | some r => e_makeMap P ty r eh n | none => none)
  | .makeSlice ty l c => (match P.underlying ty with
    | some (.slice e) => b2 t l c fun l c => e_makeSlice P e l c eh n
    | _ => none)
  | .slice ty x lo hi mx => (match evOpt t lo, evOpt t hi, evOpt t mx with
    | some lo, some hi, some mx => (match P.underlying ty with
      | some (.array m e) => (match mx, P.info? e with | none, some i => rV (b1 t x fun x => e_sliceArr m i.size x lo hi eh) eh n | _, _ => none)
      | some (.slice e) => (match P.info? e with | some i => rV (b1 t x fun x => e_slice i.size x lo hi mx) eh n | none => none)
      | some .string => (match mx with | none => rV (b1 t x fun x => e_sliceStr x lo hi) eh n | some _ => none)
      | _ => none)
    | _, _, _ => none)
  | .fieldAddr s x f => (match fieldOff P s f with
    | some (off, ft) => bif Nat.beq (szOf P ft) 0 then none else rV (b1 t x (e_fieldAddr off)) eh n
    | none => none)
  | .field s x f => (match fieldOff P s f with
    | some (off, ft) => (match tySize P ft with | some (ag, k) => rV (b1 t x (e_field ag k off)) eh n | none => none)
    | none => none)
  | .indexAddr ty x i => (match P.underlying ty with
    | some (.array m e) => (match P.info? e with | some inf => rV (b2 t x i fun x i => e_indexAddr (some m) inf.size x i) eh n | none => none)
    | some (.slice e) => (match P.info? e with | some inf => rV (b2 t x i fun x i => e_indexAddr none inf.size x i) eh n | none => none)
    | _ => none)
  | .index ty x i => (match P.underlying ty with
    | some (.array m e) => (match tySize P e with | some (ag, sz) => rV (b2 t x i fun x i => e_index false m ag sz x i) eh n | none => none)
    | some .string => rV (b2 t x i fun x i => e_index true 0 false 0 x i) eh n
    | _ => none)
  | .lookup ty x k ok => (match P.underlying ty with
    | some (.map kt e) => (match zeroX P e, kkOf P kt with | some z, some kk => rV (b2 t x k fun x k => e_lookup kk z x k ok eh) eh n | _, _ => none)
    | _ => none)
  | .mapUpdate ty m k x | .insert ty m k x => (match P.underlying ty with
    | some (.map kt _) => (match kkOf P kt with | some kk => rH (b1 t x fun x => b2 t m k fun m k => e_mapUpdate kk m k x eh) n | none => none)
    | _ => none)
  | .range ty x => (match P.underlying ty with
    | some (.map _ _) => b1 t x fun x => e_range x eh n
    | _ => none)
  | .next it false => b1 t it fun it => e_next it eh n
  | .entry it => rV (b1 t it fun it => e_entry it eh) eh n
  | .extract x i => (match evO t x with | some v => rV (e_extract v i) eh n | none => none)
  | .call c => e_call P C Y c t eh n
  | _ => none

set_option maxHeartbeats 1000000 in
theorem e_op_ok {C : CallF} {Y : YieldF} (hC : CallOk P C) (hY : YieldOk P Y) {op : Op} {t : XT} {T : T} {r : XV × EH × Nat} {K : Value → H → Prop} (hs : XSim F ρ n eh h) (ht : TR ρ t T)
    (he : e_op P C Y op t eh n = some r) (hk : Good F ρ r K) : aop P op (aev T) h K := by
  have hv : ∀ {x : XV}, r = (x, eh, n) → ∀ u, RV ρ x u → K u h := by
    intro x hr u hu
    subst hr
    exact hk.here hs hu
  have hh : ∀ {e : EH}, r = (uX, e, n) → ∀ h', XSim F ρ n e h' → K undef h' := by
    intro e hr h' hs'
    subst hr
    exact hk _ _ _ (Ren.le_refl ρ) hs' undef_rv
  unfold e_op at he
  unfold aop
  split at he
  · obtain ⟨v, h1, hr⟩ := rV_ok he; exact hv hr _ (evO_ok ht h1)
  · obtain ⟨v, h1, hr⟩ := rV_ok he; exact hv hr _ (evO_ok ht h1)
  · rename_i c a b
    split at he
    · rename_i q hq
      obtain ⟨v, h1, hr⟩ := rV_ok he
      have h2 := (evA_ok ht hq).toC.self_eq rfl
      show o_pick (aev T c) (aev T a) (aev T b) fun v => K v h
      rw [h2, pick_bool]
      cases q
      · exact hv hr _ (evO_ok ht h1)
      · exact hv hr _ (evO_ok ht h1)
    · cases he
  · exact e_alloc_ok hs he hk
  · obtain ⟨a, h1, h2⟩ := b1_ok he; exact e_box_ok hs (evA_ok ht h1) h2 hk
  · split at he
    · rename_i l hl
      obtain ⟨v, h1, hr⟩ := rV_ok he
      exact e_build_ok (evP_ok ht hl) h1 (hv hr)
    · cases he
  · split at he
    · rename_i l hl
      exact e_buildSlice_ok hs (evP_ok ht hl) he hk
    · cases he
  · split at he
    · rename_i ag k hty
      obtain ⟨v, h1, hr⟩ := rV_ok he
      obtain ⟨a, h2, h3⟩ := b1_ok h1
      simp only [hty]; exact e_load_ok hs (evA_ok ht h2) h3 (hv hr)
    · cases he
  · split at he
    · rename_i ag k hty
      obtain ⟨v, h1, hr⟩ := rH_ok he
      obtain ⟨a, b, h2, h3, h4⟩ := b2_ok h1
      simp only [hty]; exact e_store_ok hs (evA_ok ht h2) (evA_ok ht h3) h4 (hh hr)
    · cases he
  · obtain ⟨v, h1, hr⟩ := rV_ok he
    obtain ⟨a, h2, h3⟩ := b1_ok h1
    exact e_nilCheck_ok (evA_ok ht h2) h3 (hv hr)
  · obtain ⟨v, h1, hr⟩ := rV_ok he
    obtain ⟨a, b, h2, h3, h4⟩ := b2_ok h1
    exact e_bin_ok (evA_ok ht h2) (evA_ok ht h3) h4 (hv hr)
  · obtain ⟨v, h1, hr⟩ := rV_ok he
    obtain ⟨a, h2, h3⟩ := b1_ok h1
    exact e_un_ok (evA_ok ht h2) h3 (hv hr)
  · split at he
    · rename_i hd hsr
      obtain ⟨v, h1, hr⟩ := rV_ok he
      obtain ⟨a, h2, h3⟩ := b1_ok h1
      simp only [hd, hsr]; exact e_conv_ok (evA_ok ht h2) h3 (hv hr)
    · rename_i hd hsr
      obtain ⟨v, h1, hr⟩ := rV_ok he
      obtain ⟨a, h2, h3⟩ := b1_ok h1
      simp only [hd, hsr]; exact e_convStr_ok (evA_ok ht h2) h3 (hv hr)
    · rename_i hd hsr
      split at he
      · rename_i hu
        obtain ⟨v, h1, hr⟩ := rV_ok he
        obtain ⟨a, h2, h3⟩ := b1_ok h1
        simp only [hd, hsr, hu]; exact e_bytesToString_ok hs (evA_ok ht h2) h3 (hv hr)
      · cases he
    · rename_i hd hsr
      split at he
      · rename_i i hu hi
        cases hb : Nat.beq i.size 1
        · rw [hb] at he; cases he
        · rw [hb, cond_true] at he
          obtain ⟨a, h2, h3⟩ := b1_ok he
          simp only [hd, hsr, hu, hi, hb, cond_true]; exact e_stringToBytes_ok hs (evA_ok ht h2) h3 hk
      · cases he
    · rename_i hd hsr
      split at he
      · rename_i hu
        cases hb : Nat.beq _ _
        · rw [hb] at he; cases he
        · rw [hb, cond_true] at he
          obtain ⟨v, h1, hr⟩ := rV_ok he
          obtain ⟨a, h2, h3⟩ := b1_ok h1
          simp only [hd, hsr, hu, hb, cond_true]; exact e_mark_ok hs (evA_ok ht h2) h3 (hv hr)
      · cases he
    · cases he
  · rename_i ty x
    obtain ⟨v, h1, hr⟩ := rV_ok he
    obtain ⟨a, h2, h3⟩ := b1_ok h1
    have ha := evA_ok ht h2
    simp only
    cases hu : P.underlying ty with
    | none => simp only [e_makeInterface, hu] at h3; cases h3
    | some d =>
      cases a with
      | agg q => simp only [e_makeInterface, hu] at h3; cases d <;> cases h3
      | c a =>
        cases hp : plainX a
        · simp only [e_makeInterface, hu] at h3; cases d <;> simp [hp] at h3
        · simp only [e_makeInterface, hu] at h3
          obtain ⟨g1, g2⟩ := plainC_rs ha.toC hp
          cases d <;> simp [hp] at h3 <;> exact ⟨g2, hv hr _ (h3 ▸ .a (.c (.iface _ g1)))⟩
  · rename_i f first captured
    split at he
    · rename_i a c ha hc
      obtain ⟨v, h1, hr⟩ := rV_ok he
      cases f <;> simp only [e_makeFunc] at h1 <;> try (cases h1; done)
      split at h1
      · rename_i p q hp hq
        cases h1
        obtain ⟨g1, g2⟩ := plainXs_ok (evAs_ok ht ha) hp
        obtain ⟨g3, g4⟩ := plainXs_ok (evAs_ok ht hc) hq
        refine ⟨g1, g3, hv hr _ (.a (.c (.func _ ?_ ?_)))⟩
        · simpa using g2
        · simpa using g4
      · cases h1
    · cases he
  · split at he
    · rename_i r' hr
      exact e_makeMap_ok hs (evOpt_ok ht hr) he hk
    · cases he
  · split at he
    · rename_i e hu
      obtain ⟨a, b, h2, h3, h4⟩ := b2_ok he
      simp only [hu]; exact e_makeSlice_ok hs (evA_ok ht h2) (evA_ok ht h3) h4 hk
    · cases he
  · rename_i ty x lo hi mx
    split at he
    · rename_i lo' hi' mx' hlo hhi hmx
      split at he
      · rename_i m e hu
        split at he
        · rename_i i hi2
          obtain ⟨v, h1, hr⟩ := rV_ok he
          obtain ⟨a, h2, h3⟩ := b1_ok h1
          have hm := evOpt_ok ht hmx
          simp only [hu]
          cases mx with
          | some mx => cases hm
          | none =>
          simp only [hi2]
          exact e_sliceArr_ok hs (evA_ok ht h2) (evOpt_ok ht hlo) (evOpt_ok ht hhi) h3 (hv hr)
        · cases he
      · rename_i e hu
        split at he
        · rename_i i hi2
          obtain ⟨v, h1, hr⟩ := rV_ok he
          obtain ⟨a, h2, h3⟩ := b1_ok h1
          simp only [hu, hi2]
          exact e_slice_ok hs (evA_ok ht h2) (evOpt_ok ht hlo) (evOpt_ok ht hhi) (evOpt_ok ht hmx) h3 (hv hr)
        · cases he
      · rename_i hu
        split at he
        · obtain ⟨v, h1, hr⟩ := rV_ok he
          obtain ⟨a, h2, h3⟩ := b1_ok h1
          have hm := evOpt_ok ht hmx
          simp only [hu]
          cases mx with
          | some mx => cases hm
          | none =>
          exact e_sliceStr_ok (evA_ok ht h2) (evOpt_ok ht hlo) (evOpt_ok ht hhi) h3 (hv hr)
        · cases he
      · cases he
    · cases he
  · split at he
    · rename_i off ft hf
      cases hb : Nat.beq (szOf P ft) 0
      · rw [hb, cond_false] at he
        obtain ⟨v, h1, hr⟩ := rV_ok he
        obtain ⟨a, h2, h3⟩ := b1_ok h1
        simp only [hf, hb, cond_false]; exact e_fieldAddr_ok (evA_ok ht h2) h3 (hv hr)
      · rw [hb] at he; cases he
    · cases he
  · split at he
    · rename_i off ft hf
      split at he
      · rename_i ag k hty
        obtain ⟨v, h1, hr⟩ := rV_ok he
        obtain ⟨a, h2, h3⟩ := b1_ok h1
        simp only [hf, hty]; exact e_field_ok (evA_ok ht h2) h3 (hv hr)
      · cases he
    · cases he
  · split at he
    · rename_i m e hu
      split at he
      · rename_i i hi
        obtain ⟨v, h1, hr⟩ := rV_ok he
        obtain ⟨a, b, h2, h3, h4⟩ := b2_ok h1
        simp only [hu, hi]; exact e_indexAddr_ok (evA_ok ht h2) (evA_ok ht h3) h4 (hv hr)
      · cases he
    · rename_i e hu
      split at he
      · rename_i i hi
        obtain ⟨v, h1, hr⟩ := rV_ok he
        obtain ⟨a, b, h2, h3, h4⟩ := b2_ok h1
        simp only [hu, hi]; exact e_indexAddr_ok (evA_ok ht h2) (evA_ok ht h3) h4 (hv hr)
      · cases he
    · cases he
  · split at he
    · rename_i m e hu
      split at he
      · rename_i ag sz hty
        obtain ⟨v, h1, hr⟩ := rV_ok he
        obtain ⟨a, b, h2, h3, h4⟩ := b2_ok h1
        simp only [hu, hty]; exact e_index_ok (evA_ok ht h2) (evA_ok ht h3) h4 (hv hr)
      · cases he
    · rename_i hu
      obtain ⟨v, h1, hr⟩ := rV_ok he
      obtain ⟨a, b, h2, h3, h4⟩ := b2_ok h1
      simp only [hu]; exact e_index_ok (evA_ok ht h2) (evA_ok ht h3) h4 (hv hr)
    · cases he
  · split at he
    · rename_i kt e hu
      split at he
      · rename_i z kk hz hkk
        obtain ⟨v, h1, hr⟩ := rV_ok he
        obtain ⟨a, b, h2, h3, h4⟩ := b2_ok h1
        obtain ⟨z', g1, g2⟩ := zeroX_ok (ρ := ρ) hz
        simp only [hu, hkk, g1]; exact e_lookup_ok hs g2 (evA_ok ht h2) (evA_ok ht h3) h4 (hv hr)
      · cases he
    · cases he
  · split at he
    · rename_i kt e hu
      split at he
      · rename_i kk hkk
        obtain ⟨v, h1, hr⟩ := rH_ok he
        obtain ⟨a, h2, h3⟩ := b1_ok h1
        obtain ⟨c, d, h4, h5, h6⟩ := b2_ok h3
        simp only [hu, hkk]; exact e_mapUpdate_ok hs (evA_ok ht h4) (evA_ok ht h5) (evA_ok ht h2) h6 (hh hr)
      · cases he
    · cases he
  · split at he
    · rename_i kt e hu
      split at he
      · rename_i kk hkk
        obtain ⟨v, h1, hr⟩ := rH_ok he
        obtain ⟨a, h2, h3⟩ := b1_ok h1
        obtain ⟨c, d, h4, h5, h6⟩ := b2_ok h3
        simp only [hu, hkk]; exact e_mapUpdate_ok hs (evA_ok ht h4) (evA_ok ht h5) (evA_ok ht h2) h6 (hh hr)
      · cases he
    · cases he
  · split at he
    · rename_i hu
      obtain ⟨a, h2, h3⟩ := b1_ok he
      simp only [hu]; exact e_range_ok hs (evA_ok ht h2) h3 hk
    · cases he
  · obtain ⟨a, h2, h3⟩ := b1_ok he
    exact e_next_ok hs (evA_ok ht h2) h3 hk
  · obtain ⟨v, h1, hr⟩ := rV_ok he
    obtain ⟨a, h2, h3⟩ := b1_ok h1
    exact e_entry_ok hs (evA_ok ht h2) h3 (hv hr)
  · split at he
    · rename_i v hv'
      obtain ⟨u, h1, hr⟩ := rV_ok he
      exact e_extract_ok (evO_ok ht hv') h1 (hv hr)
    · cases he
  · exact e_call_ok hC hY hs ht he hk
  · cases he
end
end
end Go.Proofs.YtbmfblmebhobiaaGreat.AM

