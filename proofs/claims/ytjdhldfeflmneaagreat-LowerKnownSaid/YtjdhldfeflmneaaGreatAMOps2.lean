/-
  The operations in the abstract memory tell what the model's operations do: stores, new blocks, addresses, parts, numbers.
-/
import Derived.Test.YtjdhldfeflmneaaGreatAMOps
set_option linter.unusedSimpArgs false
set_option linter.unusedVariables false
namespace Go.Proofs.YtjdhldfeflmneaaGreat.AM
open Go.RowKit
section
variable {P : Program} {W : World} {ι : Env} {h : H} {w : World}

theorem sim_store {t : TypeId} {ag : Bool} {n : Nat} {a ca v cv : Value} {K : H → Prop} (ht : tySize P t = some (ag, n)) (hr : HRel P W ι h w) (ha : VRel ι a ca) (hv : VRel ι v cv)
    (hk : o_store n a v h K) : SimU P W ι (Instr.storeAt t ca cv) w K := by
  obtain ⟨i, hi, hn, _⟩ := tySize_spec ht
  unfold o_store at hk
  split at hk
  · rename_i b o
    obtain ⟨l, hl, rfl⟩ := ha.ptr
    split at hk
    · rename_i cs E m hb
      obtain ⟨hm, hbox, hsz, hlen, hk⟩ := hk
      have hva := hv.toA hbox
      have hsz' := hva.size
      obtain ⟨w', hs, hr'⟩ := put_cells (P := P) hr hb hl hm hva.cells (o := o) (by simpa [hsz] using hlen)
      exact ⟨w', ι, _, by simp [Instr.storeAt, Instr.sureAddr, storeVar, run_size hi, hn, hsz', hsz, hs], Env.le_refl _, hr', hk⟩
    · exact hk.elim
  · exact hk.elim

/-! ### New blocks -/
theorem orel_new {B : Nat} {cs cs' rest : List Value} {E : TypeId} {m : Own} {k b : Nat} (hm : m ≠ .ro) (hB : B ≤ b) {ι' : Env}
    (hc : All2 (CRel ι') cs cs') (hk : m ≠ .open → k = 0) (hk' : m = .open → rest.length = k * szOf P E) {w' : World} (hw : w'.heap[b]? = some (.cells (cs' ++ rest).toArray E (0, 0))) :
    ORel P B ι' ⟨b, 0, k⟩ w' (.cells cs E m) := by
  have hl := hc.length
  refine ⟨_, E, 0, 0, hw, ?_, fun he => absurd he hm, fun _ => ⟨hB, fun i _ => by omega⟩, hk, fun he => ?_⟩
  · intro i v hi
    obtain ⟨v', h1, h2⟩ := hc.get hi
    refine ⟨v', ?_, h2⟩
    have hlt : i < cs'.length := (List.getElem?_eq_some_iff.1 h1).1
    simp only [Nat.zero_add, List.getElem?_toArray]
    rw [List.getElem?_append_left hlt]; exact h1
  · have := hk' he
    simp; omega

/-- A new block of cells, maybe with spare room behind it. -/
theorem sim_new (hr : HRel P W ι h w) {cs cs' rest : List Value} {E : TypeId} {m : Own} {k : Nat} (hm : m ≠ .ro) (hc : All2 (CRel ι) cs cs') (hk : m ≠ .open → k = 0) (hk' : m = .open → rest.length = k * szOf P E)
    {K : Nat → H → Prop} (ho : o_new cs E m h K) :
    ∃ b ι', Env.le ι ι' ∧ ι' b = some ⟨w.heap.size, 0, k⟩ ∧ HRel P W ι' (upd h b (.cells cs E m)) (w.alloc (.cells (cs' ++ rest).toArray E)) ∧ K b (upd h b (.cells cs E m)) := by
  obtain ⟨b, h2, hb, hhb⟩ := hr.fresh
  refine ⟨b, ι.set b ⟨w.heap.size, 0, k⟩, Env.le_set _ hb, Env.set_same _ _ _, ?_, ho b h2 hhb⟩
  refine hr.new h2 hb ?_
  exact orel_new hm hr.below.size (hc.mono fun _ _ h => h.mono (Env.le_set _ hb)) hk hk' (alloc_get_new w _)

theorem sim_newRow {s : Sem Value} (hr : HRel P W ι h w) {cs cs' : List Value} {E : TypeId} {m : Own} (hm : m ≠ .ro) (hc : All2 (CRel ι) cs cs') {K : Value → H → Prop} {f : Addr → Value} {g : Nat → Value}
    (hs : s.run P w = .ok (f ⟨w.heap.size, 0, none⟩) (w.alloc (.cells cs'.toArray E))) (hfg : ∀ b (ι' : Env), Env.le ι ι' → ι' b = some ⟨w.heap.size, 0, 0⟩ → VRel ι' (g b) (f ⟨w.heap.size, 0, none⟩))
    (ho : o_new cs E m h fun b h => K (g b) h) : Sim P W ι s w K := by
  obtain ⟨b, ι', h1, h2, h3, h4⟩ := sim_new (rest := []) (k := 0) hr hm hc (fun _ => rfl) (fun _ => by simp) ho
  refine ⟨_, _, ι', g b, _, hs, h1, ?_, hfg b ι' h1 h2, h4⟩
  simpa using h3

theorem sim_newObj (hr : HRel P W ι h w) {O : Obj} {o : AObj} {K : Nat → H → Prop}
    (ho' : ∀ b, ORel P W.heap.size (ι.set b ⟨w.heap.size, 0, 0⟩) ⟨w.heap.size, 0, 0⟩ (w.alloc O) o ∨ ι b ≠ none) (ho : o_newObj o h K) :
    ∃ b ι', Env.le ι ι' ∧ ι' b = some ⟨w.heap.size, 0, 0⟩ ∧ HRel P W ι' (upd h b o) (w.alloc O) ∧ K b (upd h b o) := by
  obtain ⟨b, h2, hb, hhb⟩ := hr.fresh
  refine ⟨b, ι.set b ⟨w.heap.size, 0, 0⟩, Env.le_set _ hb, Env.set_same _ _ _, ?_, ho b h2 hhb⟩
  exact hr.new h2 hb ((ho' b).resolve_right (by simp [hb]))

theorem vrel_ptr_new {ι' : Env} {b n k : Nat} (hb : ι' b = some ⟨n, 0, k⟩) : VRel ι' (.pointer (some ⟨b, 0, none⟩)) (.pointer (some ⟨n, 0, none⟩)) := by
  have := SRel.ptr (o := 0) hb
  exact .a (.c (.s this))
theorem vrel_slice_new {ι' : Env} {b n k len : Nat} (hb : ι' b = some ⟨n, 0, k⟩) : VRel ι' (.slice (some ⟨b, 0, none⟩) len len) (.slice (some ⟨n, 0, none⟩) len (len + k)) := by
  have := SRel.slice (o := 0) (n := len) (c := len) hb
  exact .a (.c (.s this))

theorem sim_alloc {E : TypeId} {z : Value} {K : Value → H → Prop} (hz : zeroOf P E = some z) (hr : HRel P W ι h w)
    (hk : o_new z.cells.toList E .exact h fun b h => K (.pointer (some ⟨b, 0, none⟩)) h) : Sim P W ι (Instr.alloc E true (.tuple #[])) w K := by
  have hc : All2 (CRel ι) z.cells.toList z.cells.toList := (arel_self (ι := ι) (zeroOf_spec hz).1).cells
  refine sim_newRow (cs' := z.cells.toList) (f := fun a => .pointer (some a)) (g := fun b => .pointer (some ⟨b, 0, none⟩)) hr (by simp) hc ?_ (fun b ι' _ hb => vrel_ptr_new hb) hk
  simp [Instr.alloc, run_zero hz, newVar, newRow]
theorem sim_box {E : TypeId} {v cv : Value} {K : Value → H → Prop} (hr : HRel P W ι h w) (hv : VRel ι v cv) (hbox : boxV v = true)
    (hk : o_new v.cells.toList E .exact h fun b h => K (.pointer (some ⟨b, 0, none⟩)) h) : Sim P W ι (Instr.box E cv) w K := by
  refine sim_newRow (cs' := cv.cells.toList) (f := fun a => .pointer (some a)) (g := fun b => .pointer (some ⟨b, 0, none⟩)) hr (by simp) (hv.toA hbox).cells ?_ (fun b ι' _ hb => vrel_ptr_new hb) hk
  simp [Instr.box, newVar, newRow]

/-! ### Addresses, parts -/
theorem sim_nilCheck_run {x cx : Value} {K : Value → H → Prop} (hx : VRel ι x cx) (hk : o_nilCheck x fun v => K v h) :
    ∃ v, VRel ι v cx ∧ K v h ∧ (∀ m a b, cx ≠ .func (.method m) a b) ∧ cx ≠ .pointer none ∧ cx ≠ .nilIface ∧ cx ≠ .nilFunc := by
  unfold o_nilCheck at hk
  split at hk
  · refine ⟨_, hx, hk, ?_⟩
    have hc := hx.cell rfl
    cases hc with
    | s hx => cases hx; simp
  · refine ⟨_, hx, hk, ?_⟩
    have hc := hx.cell rfl
    cases hc with
    | s hx => cases hx
    | func f a b => simp
  · refine ⟨_, hx, hk, ?_⟩
    have hc := hx.cell rfl
    cases hc with
    | s hx => cases hx
    | yield a => simp
  · exact hk.elim

theorem fieldOff_spec {s : TypeId} {f off : Nat} {ft : TypeId} (hf : fieldOff P s f = some (off, ft)) :
    ∃ fs fd, P.underlying s = some (.struct fs) ∧ fs[f]? = some fd ∧ fd.offset = off ∧ fd.type = ft := by
  unfold fieldOff at hf
  split at hf
  · rename_i fs hu
    split at hf
    · rename_i fd hfd
      cases hf
      exact ⟨fs, fd, hu, hfd, rfl, rfl⟩
    · cases hf
  · cases hf
theorem sim_fieldAddr {s : TypeId} {f off : Nat} {ft : TypeId} {x cx : Value} {K : Value → H → Prop} (hf : fieldOff P s f = some (off, ft)) (hne : szOf P ft ≠ 0) (hr : HRel P W ι h w) (hx : VRel ι x cx)
    (hk : o_fieldAddr off x fun v => K v h) : Sim P W ι (Instr.fieldAt s cx f) w K := by
  obtain ⟨fs, fd, hu, hfd, rfl, rfl⟩ := fieldOff_spec hf
  unfold o_fieldAddr at hk
  split at hk
  · rename_i b o
    obtain ⟨l, hl, rfl⟩ := hx.ptr
    cases hi : P.info? fd.type with
    | none => simp [szOf, hi] at hne
    | some i =>
      have hi0 : i.size ≠ 0 := by simpa [szOf, hi] using hne
      refine Sim.quiet (cv := .pointer (some ⟨l.b, l.o + o + fd.offset, none⟩)) hr ?_ ?_ hk
      · simp [Instr.fieldAt, run_und hu, hfd, Instr.sureAddr, fieldPlace, run_size hi, hi0, add_none]
      · have := SRel.ptr (ι := ι) (o := o + fd.offset) hl
        rw [← Nat.add_assoc] at this
        exact .a (.c (.s this))
  · exact hk.elim

theorem all2_extract {xs ys : Array Value} {R : Value → Value → Prop} (h : All2 R xs.toList ys.toList) (a b : Nat) : All2 R (xs.extract a b).toList (ys.extract a b).toList := by
  simp only [Array.toList_extract]
  exact (h.drop _).take _
theorem part_rel {ag : Bool} {n off : Nat} {xs ys : Array Value} {v : Value} {t : TypeId} (ht : tySize P t = some (ag, n)) (h : All2 (CRel ι) xs.toList ys.toList) (hp : partOf ag n off xs = some v) (w : World) :
    ∃ cv, (part t ys off).run P w = .ok cv w ∧ VRel ι v cv := by
  obtain ⟨i, hi, hn, hag⟩ := tySize_spec ht
  have hlen : ys.size = xs.size := by simpa using h.length.symm
  unfold partOf at hp
  cases ag with
  | true =>
    simp only [cond_true] at hp
    split at hp
    · cases hp
      exact ⟨_, by simp [part, hag, run_size hi, hn], .a (.agg (all2_extract h _ _))⟩
    · cases hp
  | false =>
    simp only [cond_false] at hp
    obtain ⟨cv, h1, h2⟩ := h.get (i := off) (a := v) (by simpa using hp)
    have h1' : ys[off]? = some cv := by simpa using h1
    exact ⟨cv, by simp [part, hag, h1'], .a (.c h2)⟩
theorem sim_field {s : TypeId} {f off : Nat} {ft : TypeId} {ag : Bool} {n : Nat} {x cx : Value} {K : Value → H → Prop} (hf : fieldOff P s f = some (off, ft)) (ht : tySize P ft = some (ag, n)) (hr : HRel P W ι h w) (hx : VRel ι x cx)
    (hk : o_field ag n off x fun v => K v h) : Sim P W ι (Instr.field s cx f) w K := by
  obtain ⟨fs, fd, hu, hfd, rfl, rfl⟩ := fieldOff_spec hf
  unfold o_field at hk
  split at hk
  · obtain ⟨ys, rfl, hys⟩ := hx.agg
    split at hk
    · rename_i v hv
      obtain ⟨cv, h1, h2⟩ := part_rel ht hys hv w
      exact Sim.quiet hr (by simp [Instr.field, run_und hu, hfd, asAgg, h1]) h2 hk
    · exact hk.elim
  · exact hk.elim

theorem VRel.slice {b o n c : Nat} {v' : Value} (h : VRel ι (.slice (some ⟨b, o, none⟩) n c) v') :
    (∃ l, ι b = some l ∧ v' = .slice (some ⟨l.b, l.o + o, none⟩) n (c + l.k)) ∨ (n = 0 ∧ c = 0 ∧ b = 0 ∧ o = 0 ∧ ∃ a, v' = .slice (some a) 0 0) ∨ (n = 0 ∧ c = 0 ∧ b = 1 ∧ o = 0 ∧ ∃ a c', v' = .slice (some a) 0 c') := by
  cases h with | a h => cases h with | c h => cases h with | s h => cases h with
    | slice h => exact .inl ⟨_, h, rfl⟩
    | empty0 a => exact .inr (.inl ⟨rfl, rfl, rfl, rfl, a, rfl⟩)
    | empty1 a c => exact .inr (.inr ⟨rfl, rfl, rfl, rfl, a, c, rfl⟩)

theorem sim_indexAddr_slice {t e : TypeId} {x cx i ci : Value} {K : Value → H → Prop} {inf : TypeInfo} (hu : P.underlying t = some (.slice e)) (hi : P.info? e = some inf) (hr : HRel P W ι h w) (hx : VRel ι x cx) (hix : VRel ι i ci)
    (hk : o_indexAddr none inf.size x i fun v => K v h) : Sim P W ι (Instr.indexAt t cx ci) w K := by
  unfold o_indexAddr at hk
  split at hk
  · rename_i k j b o n c _
    obtain rfl := hix.int
    obtain ⟨h0, h1, hk⟩ := hk
    rcases hx.slice with ⟨l, hl, rfl⟩ | ⟨rfl, _⟩ | ⟨rfl, _⟩
    · refine Sim.quiet (cv := .pointer (some ⟨l.b, l.o + o + j.toNat * inf.size, none⟩)) hr ?_ ?_ hk
      · simp [Instr.indexAt, asIntOf, run_und hu, h0, h1, run_size hi, add_none]
      · have := SRel.ptr (ι := ι) (o := o + j.toNat * inf.size) hl
        rw [← Nat.add_assoc] at this
        exact .a (.c (.s this))
    · omega
    · omega
  · simp_all
  · exact hk.elim
theorem sim_indexAddr_array {t e : TypeId} {n : Nat} {x cx i ci : Value} {K : Value → H → Prop} {inf : TypeInfo} (hu : P.underlying t = some (.array n e)) (hi : P.info? e = some inf) (hr : HRel P W ι h w) (hx : VRel ι x cx) (hix : VRel ι i ci)
    (hk : o_indexAddr (some n) inf.size x i fun v => K v h) : Sim P W ι (Instr.indexAt t cx ci) w K := by
  unfold o_indexAddr at hk
  split at hk
  · simp_all
  · rename_i k j n' b o he
    have he' : n = n' := by simpa using he
    subst he'
    obtain rfl := hix.int
    obtain ⟨h0, h1, hk⟩ := hk
    obtain ⟨l, hl, rfl⟩ := hx.ptr
    refine Sim.quiet (cv := .pointer (some ⟨l.b, l.o + o + j.toNat * inf.size, none⟩)) hr ?_ ?_ hk
    · simp [Instr.indexAt, asIntOf, run_und hu, h0, h1, run_size hi, add_none, Instr.sureAddr]
    · have := SRel.ptr (ι := ι) (o := o + j.toNat * inf.size) hl
      rw [← Nat.add_assoc] at this
      exact .a (.c (.s this))
  · exact hk.elim

theorem sim_index_array {t e : TypeId} {n sz : Nat} {ag : Bool} {x cx i ci : Value} {K : Value → H → Prop} (hu : P.underlying t = some (.array n e)) (ht : tySize P e = some (ag, sz)) (hr : HRel P W ι h w) (hx : VRel ι x cx) (hix : VRel ι i ci)
    (hk : o_index false n ag sz x i fun v => K v h) : Sim P W ι (Instr.index t cx ci) w K := by
  obtain ⟨inf, hi, hn, hag⟩ := tySize_spec ht
  unfold o_index at hk
  split at hk
  · rename_i k j cs
    obtain rfl := hix.int
    obtain ⟨ys, rfl, hys⟩ := hx.agg
    obtain ⟨_, h0, h1, hk⟩ := hk
    split at hk
    · rename_i v hv
      obtain ⟨cv, h2, h3⟩ := part_rel ht hys hv w
      exact Sim.quiet hr (by simp [Instr.index, asIntOf, run_und hu, h0, h1, run_size hi, hn, h2]) h3 hk
    · exact hk.elim
  · exact absurd hk.1 (by simp)
  · exact hk.elim
theorem sim_index_string {t : TypeId} {n sz : Nat} {ag : Bool} {x cx i ci : Value} {K : Value → H → Prop} (hu : P.underlying t = some .string) (hr : HRel P W ι h w) (hx : VRel ι x cx) (hix : VRel ι i ci)
    (hk : o_index true n ag sz x i fun v => K v h) : Sim P W ι (Instr.index t cx ci) w K := by
  unfold o_index at hk
  split at hk
  · exact absurd hk.1 (by simp)
  · rename_i k j s
    obtain rfl := hix.int
    obtain rfl := hx.string
    obtain ⟨_, h0, hk⟩ := hk
    split at hk
    · rename_i c hc
      exact Sim.quiet hr (by simp [Instr.index, asIntOf, run_und hu, h0, hc]) (vrel_self rfl) hk
    · exact hk.elim
  · exact hk.elim

theorem sim_extract {x cx : Value} {i : Nat} {K : Value → H → Prop} (hr : HRel P W ι h w) (hx : VRel ι x cx) (hk : o_extract x i fun v => K v h) : Sim P W ι (Instr.extract cx i) w K := by
  unfold o_extract at hk
  split at hk
  · rename_i vs
    obtain ⟨vs', rfl, hvs⟩ := hx.tup
    split at hk
    · rename_i v hv
      obtain ⟨cv, h1, h2⟩ := hvs.get (i := i) (a := v) (by simpa using hv)
      have h1' : vs'[i]? = some cv := by simpa using h1
      exact Sim.quiet hr (by simp [Instr.extract, h1']) (.a h2) hk
    · exact hk.elim
  · exact hk.elim

/-! ### Numbers -/
theorem sim_pure {s : Sem Value} {K : Value → H → Prop} (hr : HRel P W ι h w) (hk : o_pure (pureRun P s) fun v => K v h) : Sim P W ι s w K := by
  unfold o_pure at hk
  split at hk
  · rename_i v hv
    cases hs : selfV v with
    | true => rw [hs, cond_true] at hk; exact Sim.quiet hr (pureRun_run _ hv w) (vrel_self hs) hk
    | false => rw [hs, cond_false] at hk; exact hk.elim
  · exact hk.elim
theorem VRel.ptrAny {a : Option Addr} {v' : Value} (h : VRel ι (.pointer a) v') : ∃ a', v' = .pointer a' ∧ a'.isNone = a.isNone := by
  have hc := h.cell rfl
  cases hc with | s hc => cases hc <;> exact ⟨_, rfl, rfl⟩
theorem VRel.sliceAny {a : Option Addr} {n c : Nat} {v' : Value} (h : VRel ι (.slice a n c) v') : ∃ a' n' c', v' = .slice a' n' c' ∧ n' = n ∧ a'.isNone = a.isNone := by
  have hc := h.cell rfl
  cases hc with | s hc => cases hc <;> exact ⟨_, _, _, rfl, rfl, rfl⟩
theorem VRel.mapAny {a : Option Nat} {v' : Value} (h : VRel ι (.map a) v') : ∃ a', v' = .map a' ∧ a'.isNone = a.isNone := by
  have hc := h.cell rfl
  cases hc with | s hc => cases hc <;> exact ⟨_, rfl, rfl⟩
theorem VRel.funcAny {f : Fn} {a b : Array Value} {v' : Value} (h : VRel ι (.func f a b) v') : ∃ f' a' b', v' = .func f' a' b' := by
  have hc := h.cell rfl
  cases hc with
  | s hc => cases hc
  | func f a b => exact ⟨_, _, _, rfl⟩
  | yield a => exact ⟨_, _, _, rfl⟩
theorem sim_bin {op : BinOp} {xt : TypeId} {xo yo : Operand} {x y cx cy : Value} {K : Value → H → Prop} (hr : HRel P W ι h w) (hx : VRel ι x cx) (hy : VRel ι y cy)
    (hk : o_bin P op xt x y fun v => K v h) : Sim P W ι (do eqGuard op xt xo yo cx cy; binOp op xt cx cy) w K := by
  unfold o_bin at hk
  cases hs : (selfV x && selfV y && okEq P op xt x y) with
  | true =>
    rw [hs, cond_true] at hk
    simp only [Bool.and_eq_true] at hs
    obtain rfl := vrel_eq hs.1.1 hx
    obtain rfl := vrel_eq hs.1.2 hy
    have hg : ∀ w, (eqGuard op xt xo yo cx cy).run P w = .ok () w := by
      intro w
      have h3 := hs.2
      unfold okEq at h3
      unfold eqGuard
      cases op with
      | eql =>
        simp only at h3
        split at h3
        · cases h3
        · simp only [Bool.not_eq_true'] at h3
          simp [h3]
        · simp
      | neq =>
        simp only at h3
        split at h3
        · cases h3
        · simp only [Bool.not_eq_true'] at h3
          simp [h3]
        · simp
      | _ => rfl
    have hp : Sim P W ι (binOp op xt cx cy) w K := sim_pure hr hk
    obtain ⟨cv, w', ι', v, h', q1, q2⟩ := hp
    exact ⟨cv, w', ι', v, h', by simp only [Sem.run_bind, hg, Result.andThen_ok, q1], q2⟩
  | false =>
    rw [hs, cond_false] at hk
    have eqg : ∀ (o : BinOp) (a b : Value), (∀ cs, a ≠ .agg cs) → a ≠ .nilIface → ((eqGuard o xt xo yo a b).run P w = .ok () w) := by
      intro o a b h1 h2
      cases a <;> first
        | exact absurd rfl h2
        | exact absurd rfl (h1 _)
        | (cases o <;> rfl)
    have hall : ∀ (d : TypeDesc) (a b : Value) (r : Bool), (∀ cs, a ≠ .agg cs) → a ≠ .nilIface → (Op.equalIn (9999 + 1) xt a b).run P w = .ok r w →
        ((binOp .eql xt a b) = (do pure (.bool (← Op.equal xt a b)))) → ((binOp .neq xt a b) = (do pure (.bool (!(← Op.equal xt a b))))) →
        ((do eqGuard .eql xt xo yo a b; binOp .eql xt a b : Sem Value).run P w = .ok (.bool r) w) ∧ ((do eqGuard .neq xt xo yo a b; binOp .neq xt a b : Sem Value).run P w = .ok (.bool (!r)) w) := by
      intro d a b r h1 h2 he e1 e2
      have he' : (Op.equal xt a b).run P w = .ok r w := he
      rw [e1, e2]
      simp only [Sem.run_bind, eqg _ _ _ h1 h2, Result.andThen_ok, he', Sem.run_pure, and_self]
    split at hk
    all_goals first
      | exact hk.elim
      | (rename_i hu
         obtain ⟨a', rfl, ha'⟩ := hx.ptrAny
         obtain rfl : cy = .pointer none := vrel_eq rfl hy
         have he : (Op.equalIn (9999 + 1) xt (.pointer a') (.pointer none)).run P w = .ok a'.isNone w := by
           rw [Op.equalIn]; simp only [Sem.run_bind, run_und hu, Result.andThen_ok]; cases a' <;> rfl
         have hb := hall (.pointer 0) (.pointer a') (.pointer none) _ (by simp) (by simp) he rfl rfl
         rw [ha'] at hb
         first
           | exact Sim.quiet hr hb.1 (vrel_self rfl) hk
           | exact Sim.quiet hr hb.2 (vrel_self rfl) hk)
      | (rename_i hu
         obtain ⟨a', n1, c', rfl, _, ha'⟩ := hx.sliceAny
         obtain ⟨b', n2, d', rfl, _, hb'⟩ := hy.sliceAny
         obtain rfl : b' = none := by simpa using hb'
         have he : ∀ n m, (Op.equalIn (9999 + 1) xt (.slice a' n c') (.slice none m d')).run P w = .ok a'.isNone w := fun n m => by
           rw [Op.equalIn]; simp only [Sem.run_bind, run_und hu, Result.andThen_ok]; cases a' <;> rfl
         have hb := hall (.pointer 0) (.slice a' n1 c') (.slice none n2 d') _ (by simp) (by simp) (he _ _) rfl rfl
         rw [ha'] at hb
         first
           | exact Sim.quiet hr hb.1 (vrel_self rfl) hk
           | exact Sim.quiet hr hb.2 (vrel_self rfl) hk)
      | (rename_i hu
         obtain ⟨a', rfl, ha'⟩ := hx.mapAny
         obtain rfl : cy = .map none := vrel_eq rfl hy
         have he : (Op.equalIn (9999 + 1) xt (.map a') (.map none)).run P w = .ok a'.isNone w := by
           rw [Op.equalIn]; simp only [Sem.run_bind, run_und hu, Result.andThen_ok]; cases a' <;> rfl
         have hb := hall (.pointer 0) (.map a') (.map none) _ (by simp) (by simp) he rfl rfl
         rw [ha'] at hb
         first
           | exact Sim.quiet hr hb.1 (vrel_self rfl) hk
           | exact Sim.quiet hr hb.2 (vrel_self rfl) hk)
      | (rename_i hu
         obtain ⟨f', a', b', rfl⟩ := hx.funcAny
         obtain rfl : cy = .nilFunc := vrel_eq rfl hy
         have he : (Op.equalIn (9999 + 1) xt (.func f' a' b') .nilFunc).run P w = .ok false w := by
           rw [Op.equalIn]; simp only [Sem.run_bind, run_und hu, Result.andThen_ok]; rfl
         have hb := hall (.pointer 0) (.func f' a' b') .nilFunc _ (by simp) (by simp) he rfl rfl
         first
           | exact Sim.quiet hr hb.1 (vrel_self rfl) hk
           | exact Sim.quiet hr hb.2 (vrel_self rfl) hk)
end
end Go.Proofs.YtjdhldfeflmneaaGreat.AM
