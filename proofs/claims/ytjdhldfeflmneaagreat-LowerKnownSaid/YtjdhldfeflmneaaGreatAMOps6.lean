/-
  The operations in the abstract memory tell what the model's operations do: append, copy, conversions, lengths.
-/
import Derived.Test.YtjdhldfeflmneaaGreatAMOps5
set_option linter.unusedSimpArgs false
set_option linter.unusedVariables false
namespace Go.Proofs.YtjdhldfeflmneaaGreat.AM
open Go.RowKit
section
variable {P : Program} {W : World} {ι : Env} {h : H} {w : World}

theorem sim_sliceStr {t : TypeId} {x cx : Value} {lo hi clo chi : Option Value} {K : Value → H → Prop} (hu : P.underlying t = some .string) (hr : HRel P W ι h w) (hx : VRel ι x cx)
    (hlo : ORelOpt ι lo clo) (hhi : ORelOpt ι hi chi) (hk : o_sliceStr x lo hi fun v => K v h) : Sim P W ι (Instr.sliceAt t cx clo chi none) w K := by
  unfold o_sliceStr at hk
  split at hk
  · rename_i s
    obtain rfl := hx.string
    obtain ⟨l, u, hl, hh, h1, h2, hk⟩ := hk
    have hb := run_bounds (P := P) false (orel_opt hlo (l := l) hl) (orel_hi hhi (n := s.size) (l := u) hh) h1 h2 w
    exact Sim.quiet (cv := .string (s.extract l u)) hr (by simp [Instr.sliceAt, Instr.slice, run_und hu, hb]) (vrel_self rfl) hk
  · exact hk.elim
theorem sim_sliceArr {t e : TypeId} {inf : TypeInfo} {n : Nat} {x cx : Value} {lo hi clo chi : Option Value} {K : Value → H → Prop} (hu : P.underlying t = some (.array n e)) (hi' : P.info? e = some inf) (hr : HRel P W ι h w) (hx : VRel ι x cx)
    (hlo : ORelOpt ι lo clo) (hhi : ORelOpt ι hi chi) (hk : o_sliceArr n inf.size x lo hi h fun v => K v h) : Sim P W ι (Instr.sliceAt t cx clo chi none) w K := by
  unfold o_sliceArr at hk
  split at hk
  · rename_i b o
    split at hk
    · rename_i cs E m hbo
      obtain ⟨hmo, l, u, hl, hh, h1, h2, hk⟩ := hk
      obtain ⟨lc, hlc, rfl⟩ := hx.ptr
      have hk0 : lc.k = 0 := by
        obtain ⟨_, _, _, _, _, _, _, _, h5, _⟩ := hr.obj' hbo hlc
        exact h5 hmo
      have hb := run_bounds (P := P) false (orel_opt hlo (l := l) hl) (orel_hi hhi (n := n) (l := u) hh) h1 h2 w
      have hs : (Instr.sliceAt t (.pointer (some ⟨lc.b, lc.o + o, none⟩)) clo chi none).run P w = .ok (.slice (some (if n = l then ⟨lc.b, lc.o + o, none⟩ else (⟨lc.b, lc.o + o, none⟩ : Addr).add (l * inf.size))) (u - l) (n - l)) w := by
        simp [Instr.sliceAt, run_und hu, Instr.sureAddr, hb, run_size hi']
      split at hk
      · refine Sim.quiet hr hs ?_ hk
        rw [if_neg (by omega)]
        have := SRel.slice (ι := ι) (o := o + l * inf.size) (n := u - l) (c := n - l) hlc
        rw [← Nat.add_assoc, hk0, Nat.add_zero] at this
        rw [add_none]
        exact .a (.c (.s this))
      · obtain rfl : l = n := by omega
        obtain rfl : u = l := by omega
        refine Sim.quiet hr hs ?_ hk
        rw [Nat.sub_self]
        exact .a (.c (.s (.empty1 _ _)))
    · exact hk.elim
  · exact hk.elim

/-! ### What is appended, or copied -/
theorem src_len {x cx : Value} {n : Nat} (hx : VRel ι x cx) (hn : srcLen x = some n) (w : World) : (Builtin.lenOf cx).run P w = .ok n w := by
  cases x <;> simp [srcLen] at hn
  · obtain rfl := hx.string; simp [Builtin.lenOf, hn]
  · obtain ⟨a', n', c', rfl, rfl, _⟩ := hx.sliceAny; simp [Builtin.lenOf, hn]
theorem bytes_extract_zero (s : ByteArray) : (s.extract 0 0).data = #[] := by
  apply Array.eq_empty_of_size_eq_zero
  show (s.extract 0 0).size = 0
  simp
theorem src_cells {x cx : Value} {size m : Nat} {new : List Value} (hr : HRel P W ι h w) (hx : VRel ι x cx) (hc : srcCells size h x m = some new) :
    ∃ new', (Builtin.firstCells size m cx).run P w = .ok (List.toArray new') w ∧ All2 (CRel ι) new new' ∧ (m = 0 → new = []) := by
  unfold srcCells at hc
  split at hc
  · cases hc
    obtain rfl : cx = .slice none 0 0 := vrel_eq rfl hx
    exact ⟨[], by simp [Builtin.firstCells], .nil, fun _ => rfl⟩
  · rename_i b o _ _
    split at hc
    · cases hc
      subst_vars
      obtain ⟨a', n', c', rfl, _, ha⟩ := hx.sliceAny
      obtain ⟨a, rfl⟩ : ∃ a, a' = some a := by cases a' <;> simp_all
      exact ⟨[], by simp [Builtin.firstCells, loadCells, loadCellsFrom], .nil, fun _ => rfl⟩
    · rename_i hm
      rcases hx.slice with ⟨lc, hlc, rfl⟩ | ⟨_, _, rfl, _⟩ | ⟨_, _, rfl, _⟩
      · obtain ⟨new', h1, h2, h3⟩ := read_cells hr hc hlc
        refine ⟨new', ?_, h1, fun h0 => absurd h0 hm⟩
        have := run_loadCells_list (P := P) w ⟨lc.b, lc.o + o, none⟩ new' h3
        rw [← h1.length, h2] at this
        simp [Builtin.firstCells, this]
      · simp only [cellsAt] at hc
        split at hc
        · rename_i hb; obtain ⟨l, hl, _⟩ := hr.obj _ _ hb; rw [hr.z0] at hl; cases hl
        · cases hc
      · simp only [cellsAt] at hc
        split at hc
        · rename_i hb; obtain ⟨l, hl, _⟩ := hr.obj _ _ hb; rw [hr.z1] at hl; cases hl
        · cases hc
  · rename_i s _
    cases hc
    obtain rfl := hx.string
    refine ⟨_, ?_, All2.refl_of (fun a ha => ?_), ?_⟩
    · simp only [Builtin.firstCells, Sem.run_pure]
      congr 1
      apply Array.ext'
      simp [List.map_take]
    · simp only [List.mem_map] at ha
      obtain ⟨b, _, rfl⟩ := ha
      exact .s (.int _ _)
    · rintro rfl; rw [bytes_extract_zero]; rfl
  · cases hc

theorem size_zeroCells' (z : Array Value) (n : Nat) : (Builtin.zeroCells z n).size = n * z.size := by simp [Builtin.zeroCells]

/-- append, where a new array is made. -/
theorem run_append_new {t u ty e : TypeId} {i : TypeInfo} {z : Value} (hu : P.underlying t = some (.slice e)) (hux : ∃ d, P.underlying u = some d ∧ ∀ k, d ≠ .int k) (hi : P.info? e = some i) (hz : zeroOf P e = some z)
    {base : Option Addr} {len cap n : Nat} {cx : Value} {old new : List Value} (hn : ∀ w, (Builtin.lenOf cx).run P w = .ok n w)
    (hold : (Builtin.firstCells i.size len (.slice base len cap)).run P { w with drawn := w.drawn + 1 } = .ok old.toArray { w with drawn := w.drawn + 1 })
    (hnew : (Builtin.firstCells i.size n cx).run P { w with drawn := w.drawn + 1 } = .ok new.toArray { w with drawn := w.drawn + 1 })
    (hg : cap < len + n) (hb : (len + n) * i.bytes ≤ 140737488355328) (h63 : len + n < 9223372036854775808) :
    ∃ k rest, rest.length = k * z.cells.size ∧ (Builtin.append_ #[t, u] ty #[.slice base len cap, cx]).run P w =
      .ok (.slice (some ⟨w.heap.size, 0, none⟩) (len + n) (len + n + k)) (({ w with drawn := w.drawn + 1 } : World).alloc (.cells (old ++ new ++ rest).toArray e)) := by
  obtain ⟨d, hud, hd⟩ := hux
  have hzeros : (match d with | .int _ => true | _ => false) = false := by cases d <;> first | rfl | exact absurd rfl (hd _)
  have hfit := growslice_fits hg hb
  refine ⟨(Question.appendCap (len + n) cap e).cut (w.tape w.drawn (.appendCap (len + n) cap e)) - (len + n), (Builtin.zeroCells z.cells ((Question.appendCap (len + n) cap e).cut (w.tape w.drawn (.appendCap (len + n) cap e)) - (len + n))).toList, by simp [size_zeroCells'], ?_⟩
  have hge : len + n ≤ (Question.appendCap (len + n) cap e).cut (w.tape w.drawn (.appendCap (len + n) cap e)) := by simp [Question.cut]
  have h1 : ¬ (len + n ≤ cap) := by omega
  have h2 : ¬ (((len + n : Nat) : Int) > IntKind.i64.max ∧ i.bytes = 0) := by
    intro ⟨h, _⟩
    have : IntKind.i64.max = 9223372036854775807 := by decide
    omega
  have h3 : ¬ (Builtin.nextslicecap (len + n) cap * i.bytes > 2 ^ 48) := by omega
  unfold Builtin.append_
  simp only [List.getElem?_toArray, List.getElem?_cons_zero, List.getElem?_cons_succ, Sem.run_bind, run_und hu, Result.andThen_ok, run_size hi, run_und hud, Sem.run_pure]
  rw [if_neg (by simp)]
  simp only [Sem.run_bind, hn, Result.andThen_ok, if_neg h1, run_info hi, Bool.false_eq_true, false_or, if_neg h2, if_neg h3, run_choose, Question.forced, if_false, run_askRoom, hold, Bool.not_false, if_true, hnew, run_zero hz, newRow, run_newObj, Sem.run_pure]
  have e1 : len + n + ((Question.appendCap (len + n) cap e).cut (w.tape w.drawn (.appendCap (len + n) cap e)) - (len + n)) = (Question.appendCap (len + n) cap e).cut (w.tape w.drawn (.appendCap (len + n) cap e)) := by omega
  rw [e1]
  congr 2
  apply Array.ext'
  simp

/-- append, where there is room. -/
theorem run_append_fits {t u ty e : TypeId} {i : TypeInfo} (hu : P.underlying t = some (.slice e)) (hux : ∃ d, P.underlying u = some d ∧ ∀ k, d ≠ .int k) (hi : P.info? e = some i)
    {base : Option Addr} {len cap n : Nat} {cx : Value} {new : List Value} {w' : World} (hn : (Builtin.lenOf cx).run P w = .ok n w)
    (hnew : (Builtin.firstCells i.size n cx).run P w = .ok new.toArray w) (hg : len + n ≤ cap)
    (hst : match base with | some a => (storeCells (a.add (len * i.size)) new).run P w = .ok () w' | none => w' = w) :
    (Builtin.append_ #[t, u] ty #[.slice base len cap, cx]).run P w = .ok (.slice base (len + n) cap) w' := by
  obtain ⟨d, hud, hd⟩ := hux
  have hzeros : (match d with | .int _ => true | _ => false) = false := by cases d <;> first | rfl | exact absurd rfl (hd _)
  unfold Builtin.append_
  simp only [List.getElem?_toArray, List.getElem?_cons_zero, List.getElem?_cons_succ, Sem.run_bind, run_und hu, Result.andThen_ok, run_size hi, run_und hud, Sem.run_pure]
  rw [if_neg (by simp)]
  simp only [Sem.run_bind, hn, Result.andThen_ok, if_pos hg, Bool.not_false, if_true, hnew]
  cases base with
  | none => simp only at hst; subst hst; rfl
  | some a => simp only [Sem.run_bind, hst, Result.andThen_ok, Sem.run_pure]

theorem upd_del (h : H) (b : Nat) {b' : Nat} (o : AObj) : upd (del h b) b' o = fun c => if c = b' then some o else if c = b then none else h c := rfl

set_option maxHeartbeats 1000000 in
theorem sim_append {t u ty e : TypeId} {i : TypeInfo} {z s x cs' cx : Value} {K : Value → H → Prop} (hu : P.underlying t = some (.slice e)) (hux : ∃ d, P.underlying u = some d ∧ ∀ k, d ≠ .int k) (hi : P.info? e = some i) (hz : zeroOf P e = some z)
    (hzs : z.cells.size = i.size) (hr : HRel P W ι h w) (hs : VRel ι s cs') (hx : VRel ι x cx) (hk : o_append e i.size i.bytes s x h K) :
    Sim P W ι (Builtin.append_ #[t, u] ty #[cs', cx]) w K := by
  have hsz : szOf P e = i.size := by simp [szOf, hi]
  unfold o_append at hk
  split at hk
  · rename_i base len cap n hsl
    obtain ⟨cbase, clen, ccap, rfl, rfl, hbn⟩ := hs.sliceAny
    split at hk
    · exact hk.elim
    · rename_i new hnew
      obtain ⟨new', hn1, hn2, hn3⟩ := src_cells hr hx hnew
      -- a new array
      have grow : ∀ (ccap : Nat) (old old' : List Value), All2 (CRel ι) old old' → (Builtin.firstCells i.size clen (.slice cbase clen ccap)).run P { w with drawn := w.drawn + 1 } = .ok old'.toArray { w with drawn := w.drawn + 1 } →
          ccap < clen + n → (clen + n) * i.bytes ≤ 140737488355328 → clen + n < 9223372036854775808 → ∀ h1 : H, (∀ b o, h1 b = some o → h b = some o) →
          (∀ b', 2 ≤ b' → h b' = none → K (.slice (some ⟨b', 0, none⟩) (clen + n) (clen + n)) (upd h1 b' (.cells (old ++ new) e .open))) → Sim P W ι (Builtin.append_ #[t, u] ty #[.slice cbase clen ccap, cx]) w K := by
        intro ccap old old' ho hold hg hb h63 h1 hsub hk
        obtain ⟨new2, hm1, hm2, _⟩ := src_cells (hr.drawn (w.drawn + 1)) hx hnew
        obtain ⟨k, rest, hrest, hrun⟩ := run_append_new (ty := ty) hu hux hi hz (fun w => src_len hx hsl w) hold hm1 hg hb h63
        obtain ⟨b, h2, hb1, hhb⟩ := hr.fresh
        have hrd := (hr.drawn (w.drawn + 1)).drop hsub
        obtain ⟨n0, hn0⟩ := hr.nxt
        refine ⟨_, _, ι.set b ⟨w.heap.size, 0, k⟩, .slice (some ⟨b, 0, none⟩) (clen + n) (clen + n), _, hrun, Env.le_set _ hb1, ?_, ?_, hk b h2 hhb⟩
        · refine hrd.new (b := b) h2 hb1 ?_
          refine orel_new (by simp) hrd.below.size ((ho.append hm2).mono fun _ _ hc => hc.mono (Env.le_set _ hb1)) (by simp) (fun _ => by rw [hrest, hzs, hsz]) ?_
          exact alloc_get_new _ _
        · exact vrel_slice_new (Env.set_same _ _ _)
      split at hk
      · -- within the capacity
        rename_i hfit
        split at hk
        · rename_i b o
          split at hk
          · rename_i hn0
            subst hn0
            have hne := hn3 rfl
            subst hne
            cases hn2
            obtain ⟨a, rfl⟩ : ∃ a, cbase = some a := by cases cbase <;> simp_all
            have hc : clen + 0 ≤ ccap := by
              rcases hs.slice with ⟨l, hl, he⟩ | ⟨rfl, _, _, _, a', he⟩ | ⟨rfl, _, _, _, a', c', he⟩ <;> cases he <;> omega
            have hrun := run_append_fits (ty := ty) (w' := w) hu hux hi (src_len hx hsl w) hn1 hc (base := some a) (by simp [storeCells])
            exact Sim.quiet hr hrun hs hk
          · rename_i hn0
            split at hk
            · rename_i cs E m hb
              obtain ⟨hm, hlen, hnl, hk⟩ := hk
              rcases hs.slice with ⟨l, hl, he⟩ | ⟨_, rfl, _⟩ | ⟨_, rfl, _⟩
              · cases he
                obtain ⟨w', hst, hr'⟩ := put_cells (P := P) hr hb hl hm hn2 (o := o + clen * i.size) (by rw [hnl]; rw [Nat.add_mul] at hlen; omega)
                have hrun := run_append_fits (ty := ty) (w' := w') (cap := cap + l.k) (len := clen) hu hux hi (src_len hx hsl w) hn1 (by omega) (base := some ⟨l.b, l.o + o, none⟩) (by
                  simp only [add_none, Nat.add_assoc]; exact hst)
                refine ⟨_, _, ι, _, _, hrun, Env.le_refl _, hr', ?_, hk⟩
                exact .a (.c (.s (.slice hl)))
              · omega
              · omega
            · exact hk.elim
        · obtain ⟨rfl, hk⟩ := hk
          have hne := hn3 rfl
          subst hne
          cases hn2
          have hcb : cbase = none := by simpa using hbn
          subst hcb
          have hc : clen + 0 ≤ ccap := by
            have hc := hs.cell rfl
            cases hc with | s hc => cases hc; omega
          have hrun := run_append_fits (ty := ty) (w' := w) hu hux hi (src_len hx hsl w) hn1 hc (base := none) rfl
          exact Sim.quiet hr hrun hs hk
        · exact hk.elim
      · rename_i hnf
        obtain ⟨hb, h63, hnl, hn0, hk⟩ := hk
        split at hk
        · -- from nothing
          obtain ⟨rfl, hk⟩ := hk
          have hcb : cbase = none := by simpa using hbn
          subst hcb
          have hc0 : ccap = 0 := by
            have hc := hs.cell rfl
            cases hc with | s hc => cases hc; rfl
          subst hc0
          refine grow 0 [] [] .nil (by simp [Builtin.firstCells]) (by omega) hb h63 h (fun _ _ h => h) ?_
          intro b' h2 hb'
          simpa using hk b' h2 hb'
        · rename_i b o
          split at hk
          · obtain ⟨rfl, hk⟩ := hk
            rename_i hb0
            subst hb0
            have hc0 : ccap = 0 := by
              rcases hs.slice with ⟨l, hl, _⟩ | ⟨_, _, _, _, a', he⟩ | ⟨_, _, h1, _⟩
              · rw [hr.z0] at hl; cases hl
              · cases he; rfl
              · cases h1
            obtain ⟨a, rfl⟩ : ∃ a, cbase = some a := by cases cbase <;> simp_all
            subst hc0
            refine grow 0 [] [] .nil (by simp [Builtin.firstCells, loadCells, loadCellsFrom]) (by omega) hb h63 h (fun _ _ h => h) ?_
            intro b' h2 hb'
            simpa using hk b' h2 hb'
          · rename_i hb0
            split at hk
            · rename_i cs E m hbo
              obtain ⟨hlen, hk⟩ := hk
              rcases hs.slice with ⟨l, hl, he⟩ | ⟨_, _, rfl, _⟩ | ⟨_, _, rfl, _⟩
              · cases he
                obtain ⟨ccs, CE, lo, hi', g1, g2, g3, g4, g5, g6⟩ := hr.obj' hbo hl
                have hca : cellsAt h b o (clen * i.size) = some ((cs.drop o).take (clen * i.size)) := by simp [cellsAt, hbo, hlen]
                have hold : ∃ old', (Builtin.firstCells i.size clen (.slice (some ⟨l.b, l.o + o, none⟩) clen (cap + l.k))).run P { w with drawn := w.drawn + 1 } = .ok (List.toArray old') { w with drawn := w.drawn + 1 } ∧ All2 (CRel ι) ((cs.drop o).take (clen * i.size)) old' := by
                  obtain ⟨old', q1, q2, q3⟩ := read_cells (hr.drawn (w.drawn + 1)) hca hl
                  refine ⟨old', ?_, q1⟩
                  have := run_loadCells_list (P := P) { w with drawn := w.drawn + 1 } ⟨l.b, l.o + o, none⟩ old' q3
                  rw [← q1.length, q2] at this
                  simp only [Builtin.firstCells]
                  exact this
                obtain ⟨old', ho1, ho2⟩ := hold
                split at hk
                · -- spare room behind the block
                  obtain ⟨hE, hend, hpos, hk⟩ := hk
                  subst hE
                  have hsub : ∀ c oc, del h b c = some oc → h c = some oc := fun c oc hc => by
                    unfold del at hc; split at hc
                    · cases hc
                    · exact hc
                  by_cases hroom : clen + n ≤ cap + l.k
                  · obtain ⟨b', h2, hb', hhb⟩ := hr.fresh
                    have hlt : l.b < w.heap.size := hr.inb b l hl
                    obtain ⟨hB, hfz⟩ := g4 (by simp)
                    have hsz' := g6 rfl
                    rw [hsz] at hsz'
                    have hmul : (clen + n) * i.size ≤ (cap + l.k) * i.size := Nat.mul_le_mul_right _ hroom
                    rw [Nat.add_mul, Nat.add_mul] at hmul
                    have hst := run_storeCells_blk P l.b (l.o + o + clen * i.size) CE lo hi' new' 0 ccs w g1 (by rw [← hn2.length, hnl]; omega) (fun j hj hq => hfz j hj ⟨hq.1, by omega⟩) (fun v hv => by
                      obtain ⟨j, hj, hget⟩ := List.mem_iff_getElem.1 hv
                      obtain ⟨v0, _, hv0⟩ := hn2.get' (show new'[j]? = some v by rw [List.getElem?_eq_getElem hj, hget])
                      exact hv0.one)
                    have hnne : new' ≠ [] := by
                      intro he
                      have h0 := hn2.length
                      rw [he] at h0
                      have : n * i.size = 0 := by rw [← hnl, h0]; rfl
                      rcases Nat.mul_eq_zero.1 this with h1 | h1 <;> omega
                    rw [if_neg hnne] at hst
                    have hrun := run_append_fits (ty := ty) (cap := cap + l.k) (len := clen) hu hux hi (src_len hx hsl w) hn1 hroom (base := some ⟨l.b, l.o + o, none⟩) (by
                      simp only [add_none]; exact hst)
                    have hlens : (cs.drop o).length = cs.length - o := by simp
                    refine ⟨_, _, ι.set b' ⟨l.b, l.o + o, cap + l.k - (clen + n)⟩, .slice (some ⟨b', 0, none⟩) (clen + n) (clen + n), _, hrun, Env.le_set _ hb', ?_, ?_, hk b' h2 hhb⟩
                    · refine (hr.drop hsub).put (Env.le_set _ hb') (Env.set_same _ _ _) (fun c hc => Env.set_ne _ _ hc) h2 hB (by rw [setBlk_size]; exact hlt) (by rw [setBlk_size]; exact Nat.le_refl _) (fun c hc _ => setBlk_ne _ _ hc) rfl rfl rfl ?_ ?_ ?_
                      · intro c oc lc hc hoc hlc hro he
                        have hcb : c ≠ b := by rintro rfl; rw [del_same] at hoc; cases hoc
                        rw [del_ne _ hcb] at hoc
                        exact hr.sep c b oc _ lc l hcb hoc hbo hlc hl hro rfl he
                      · intro _ es1 cl1 he1
                        rw [setBlk_same _ _ hlt] at he1; cases he1
                      · have hlnew := hn2.length
                        refine ⟨_, CE, lo, hi', setBlk_same _ _ hlt, ?_, by simp, fun _ => ⟨hB, fun j hj => hfz j (by simpa [length_setL] using hj)⟩, by simp, fun _ => ?_⟩
                        · intro j v hj
                          have hle := Env.le_set (ι := ι) ⟨l.b, l.o + o, cap + l.k - (clen + n)⟩ hb'
                          simp only [List.getElem?_toArray, Nat.add_zero]
                          rw [get_setL _ _ _ _ (by simp; omega)]
                          rw [List.getElem?_append] at hj
                          have htl : ((cs.drop o).take (clen * i.size)).length = clen * i.size := by simp; omega
                          rw [htl] at hj
                          split at hj
                          · rename_i hjl
                            rw [if_neg (by omega)]
                            have hj' : cs[o + j]? = some v := by
                              rw [List.getElem?_take, if_pos hjl, List.getElem?_drop] at hj; exact hj
                            obtain ⟨v', q1, q2⟩ := g2 _ _ hj'
                            exact ⟨v', by rw [← Nat.add_assoc] at q1; simpa using q1, q2.mono hle⟩
                          · rename_i hjl
                            obtain ⟨v', q1, q2⟩ := hn2.get hj
                            have hjn : j - clen * i.size < new'.length := (List.getElem?_eq_some_iff.1 q1).1
                            rw [if_pos (by omega), show l.o + o + j - (l.o + o + clen * i.size) = j - clen * i.size by omega]
                            exact ⟨v', q1, q2.mono hle⟩
                        · simp only [List.length_append, List.length_take, List.length_drop, hnl, hsz, List.size_toArray, length_setL, Array.length_toList]
                          have e1 : (cap + l.k - (clen + n)) * i.size = (cap + l.k) * i.size - (clen + n) * i.size := Nat.sub_mul _ _ _
                          rw [e1, Nat.add_mul, Nat.add_mul]
                          omega
                    · have := SRel.slice (ι := ι.set b' ⟨l.b, l.o + o, cap + l.k - (clen + n)⟩) (o := 0) (n := clen + n) (c := clen + n) (Env.set_same _ _ _)
                      simp only [Nat.add_zero] at this
                      rw [show clen + n + (cap + l.k - (clen + n)) = cap + l.k by omega] at this
                      exact .a (.c (.s this))
                  · exact grow (cap + l.k) _ old' ho2 ho1 (by omega) hb h63 (del h b) hsub hk
                · rename_i hm
                  have hk0 : l.k = 0 := g5 (fun he => hm he)
                  rw [hk0, Nat.add_zero]
                  rw [hk0, Nat.add_zero] at ho1
                  exact grow cap _ old' ho2 ho1 (by omega) hb h63 h (fun _ _ h => h) hk
              · exact absurd rfl hb0
              · obtain ⟨l, hl, _⟩ := hr.obj _ _ hbo
                rw [hr.z1] at hl; cases hl
            · exact hk.elim
        · exact hk.elim
  · exact hk.elim

theorem sim_copy {t u ty e : TypeId} {i : TypeInfo} {d x cd cx : Value} {K : Value → H → Prop} (hu : P.underlying t = some (.slice e)) (hi : P.info? e = some i)
    (hr : HRel P W ι h w) (hd : VRel ι d cd) (hx : VRel ι x cx) (hk : o_copy i.size d x h K) : Sim P W ι (Builtin.copy_ #[t, u] ty #[cd, cx]) w K := by
  unfold o_copy at hk
  split at hk
  · rename_i base len cap n hsl
    obtain ⟨cbase, clen, ccap, rfl, rfl, hbn⟩ := hd.sliceAny
    split at hk
    · exact hk.elim
    · rename_i new hnew
      obtain ⟨new', hn1, hn2, hn3⟩ := src_cells hr hx hnew
      have hrun : ∀ w', (match cbase with | some a => (storeCells a new').run P w = .ok () w' | none => w' = w) → (Builtin.copy_ #[t, u] ty #[.slice cbase clen ccap, cx]).run P w = .ok (goInt (Nat.min n clen)) w' := by
        intro w' hst
        simp only [Builtin.copy_, List.getElem?_toArray, List.getElem?_cons_zero, List.getElem?_cons_succ, Sem.run_bind, run_und hu, Result.andThen_ok, src_len hx hsl w, run_size hi, hn1]
        cases cbase with
        | none => simp only at hst; subst hst; rfl
        | some a => simp only [Sem.run_bind, hst, Result.andThen_ok, Sem.run_pure]
      split at hk
      · rename_i h0
        have hne := hn3 h0
        subst hne
        cases hn2
        refine Sim.quiet hr (hrun w ?_) ?_ hk
        · cases cbase <;> simp [storeCells]
        · rw [h0]; exact vrel_self rfl
      · rename_i h0
        split at hk
        · rename_i b o
          split at hk
          · rename_i cs E m hb
            obtain ⟨hm, hlen, hnl, hk⟩ := hk
            rcases hd.slice with ⟨l, hl, he⟩ | ⟨rfl, _⟩ | ⟨rfl, _⟩
            · cases he
              obtain ⟨w', hst, hr'⟩ := put_cells (P := P) hr hb hl hm hn2 (o := o) (by rw [hnl]; exact hlen)
              exact ⟨_, w', ι, _, _, hrun w' hst, Env.le_refl _, hr', vrel_self rfl, hk⟩
            · simp at h0
            · simp at h0
          · exact hk.elim
        · exact hk.elim
  · exact hk.elim

/-! ### Lengths, conversions -/
theorem sim_lenStr {t ty : TypeId} {x cx : Value} {K : Value → H → Prop} (hu : P.underlying t = some .string) (hr : HRel P W ι h w) (hx : VRel ι x cx) (hk : o_lenStr x fun v => K v h) : Sim P W ι (Builtin.len_ #[t] ty #[cx]) w K := by
  unfold o_lenStr at hk
  split at hk
  · obtain rfl := hx.string
    exact Sim.quiet hr (by simp [Builtin.len_, run_und hu]; rfl) (vrel_self rfl) hk
  · exact hk.elim
theorem sim_lenSl {t ty e : TypeId} {x cx : Value} {K : Value → H → Prop} (hu : P.underlying t = some (.slice e)) (hr : HRel P W ι h w) (hx : VRel ι x cx) (hk : o_lenSl x fun v => K v h) : Sim P W ι (Builtin.len_ #[t] ty #[cx]) w K := by
  unfold o_lenSl at hk
  split at hk
  · obtain ⟨a', n', c', rfl, rfl, _⟩ := hx.sliceAny
    exact Sim.quiet hr (by simp [Builtin.len_, run_und hu]; rfl) (vrel_self rfl) hk
  · exact hk.elim
theorem sim_lenMap {t ty kt e : TypeId} {x cx : Value} {K : Value → H → Prop} (hu : P.underlying t = some (.map kt e)) (hr : HRel P W ι h w) (hx : VRel ι x cx) (hk : o_lenMap x h fun v => K v h) : Sim P W ι (Builtin.len_ #[t] ty #[cx]) w K := by
  unfold o_lenMap at hk
  split at hk
  · obtain rfl := hx.mapNil
    exact Sim.quiet hr (by simp [Builtin.len_, run_und hu]; rfl) (vrel_self rfl) hk
  · rename_i m
    obtain ⟨l, hl, rfl⟩ := hx.map
    split at hk
    · rename_i kk es c hm
      obtain ⟨_, _, ces, h1, h2, _⟩ := hr.obj' hm hl
      have hg : (getObj l.b).run P w = .ok (.map ces c) w := by simp [getObj, Sem.run, h1]
      have hlen : ces.size = es.length := by simpa using h2.length.symm
      exact Sim.quiet hr (by simp [Builtin.len_, run_und hu, hg, hlen]; rfl) (vrel_self rfl) hk
    · exact hk.elim
  · exact hk.elim
theorem sim_lenArr {t ty e : TypeId} {n : Nat} {cx : Value} {K : Value → H → Prop} (hu : P.underlying t = some (.array n e)) (hr : HRel P W ι h w) (hk : K (.int .i64 n) h) : Sim P W ι (Builtin.len_ #[t] ty #[cx]) w K :=
  Sim.quiet hr (by simp [Builtin.len_, run_und hu]; rfl) (vrel_self rfl) hk

theorem bytesOf_spec : ∀ (vs : List Value) (bs : List UInt8), bytesOf vs = some bs → ∃ ns : List Int, vs = ns.map (Value.int .u8) ∧ ∀ acc : ByteArray, ns.foldl (fun r n => r.push (UInt8.ofNat n.toNat)) acc = ⟨acc.data ++ bs.toArray⟩
  | [], bs, h => by simp [bytesOf] at h; subst h; exact ⟨[], rfl, fun acc => by simp⟩
  | v :: vs, bs, h => by
    obtain ⟨n, rfl⟩ : ∃ n, v = .int .u8 n := by
      cases v with
      | int k n => cases k with
        | u8 => exact ⟨n, rfl⟩
        | _ => simp [bytesOf] at h
      | _ => simp [bytesOf] at h
    simp only [bytesOf] at h
    cases hb : bytesOf vs with
    | none => rw [hb] at h; cases h
    | some bs' =>
      rw [hb] at h
      simp only [Option.map_some, Option.some.injEq] at h
      subst h
      obtain ⟨ns, rfl, hns⟩ := bytesOf_spec vs bs' hb
      refine ⟨n :: ns, rfl, fun acc => ?_⟩
      rw [List.foldl_cons, hns]
      congr 1
      apply Array.ext'
      simp [ByteArray.push]
theorem sim_bytesToString {s e d : TypeId} {x cx : Value} {K : Value → H → Prop} (hs : P.underlying s = some (.slice e)) (hd : P.underlying d = some .string) (he : P.underlying e = some (.int .u8))
    (hr : HRel P W ι h w) (hx : VRel ι x cx) (hk : o_bytesToString x h fun v => K v h) : Sim P W ι (convert s d cx) w K := by
  have hcv : ∀ (a : Option Addr) (n c : Nat), (convert s d (.slice a n c)).run P w = (Conv.bytesToString (.slice a n c)).run P w := fun a n c => run_convert_bytes_string w s d e a n c hs he hd
  unfold o_bytesToString at hk
  split at hk
  · obtain rfl : cx = .slice none 0 0 := vrel_eq rfl hx
    exact Sim.quiet (cv := .string .empty) hr (by rw [hcv]; simp [Conv.bytesToString]) (vrel_self rfl) hk
  · rename_i b o n _
    obtain ⟨a', n', c', rfl, rfl, ha⟩ := hx.sliceAny
    obtain ⟨a, rfl⟩ : ∃ a, a' = some a := by cases a' <;> simp_all
    split at hk
    · subst_vars
      have := run_bytesToString (P := P) w a 0 c' [] (by simp [loadCells, loadCellsFrom])
      exact Sim.quiet (cv := .string .empty) hr (by rw [hcv, this]; rfl) (vrel_self rfl) hk
    · rename_i hn0
      split at hk
      · rename_i vs hvs
        split at hk
        · rename_i bs hbs
          rcases hx.slice with ⟨l, hl, he'⟩ | ⟨h0, _⟩ | ⟨h0, _⟩
          · simp only [Value.slice.injEq, Option.some.injEq] at he'
            obtain ⟨rfl, _, _⟩ := he'
            obtain ⟨vs', q1, q2, q3⟩ := read_cells hr hvs hl
            obtain ⟨ns, rfl, hns⟩ := bytesOf_spec vs bs hbs
            obtain rfl : vs' = ns.map (Value.int .u8) := all2_crel_eq q1 (by simp [List.all_map, selfC])
            have hload := run_loadCells_list (P := P) w ⟨l.b, l.o + o, none⟩ _ q3
            rw [q2] at hload
            have := run_bytesToString (P := P) w ⟨l.b, l.o + o, none⟩ n' c' ns hload
            rw [hns] at this
            refine Sim.quiet (cv := .string ⟨bs.toArray⟩) hr ?_ (vrel_self rfl) hk
            rw [hcv]
            have e1 : (ByteArray.empty.data ++ bs.toArray) = bs.toArray := by
              show #[] ++ bs.toArray = bs.toArray
              simp
            rw [e1] at this
            exact this
          · exact absurd h0 hn0
          · exact absurd h0 hn0
        · exact hk.elim
      · exact hk.elim
  · exact hk.elim

theorem sim_stringToBytes {s e d : TypeId} {i : TypeInfo} {x cx : Value} {K : Value → H → Prop} (hs : P.underlying s = some .string) (hd : P.underlying d = some (.slice e)) (he : P.underlying e = some (.int .u8)) (hi : P.info? e = some i) (hi1 : i.size = 1)
    (hr : HRel P W ι h w) (hx : VRel ι x cx) (hk : o_stringToBytes e x h K) : Sim P W ι (convert s d cx) w K := by
  unfold o_stringToBytes at hk
  split at hk
  · rename_i x
    obtain rfl := hx.string
    have hcv : (convert s d (.string x)).run P w = (Conv.stringToBytes e x).run P w := by
      simp [convert, run_und hs, run_und hd, run_und he]
    obtain ⟨C, w0, hC, hw0, hch⟩ : ∃ C w0, x.size ≤ C ∧ (w0 = { w with drawn := w.drawn + 1 }) ∧ (choose (.appendCap x.size 0 e)).run P w = .ok C w0 := by
      refine ⟨(Question.appendCap x.size 0 e).cut (w.tape w.drawn (.appendCap x.size 0 e)), { w with drawn := w.drawn + 1 }, ?_, rfl, ?_⟩
      · simp [Question.cut]
      · rw [run_choose]; rfl
    have hr0 : HRel P W ι h w0 := by rw [hw0]; exact hr.drawn _
    have hcs : All2 (CRel ι) (x.data.toList.map fun b => Value.int .u8 b.toNat) (x.data.toList.map fun b => Value.int .u8 b.toNat) := All2.refl_of fun a ha => by
      obtain ⟨b, _, rfl⟩ := List.mem_map.1 ha
      exact .s (.int _ _)
    obtain ⟨b, ι', h1, h2, h3, h4⟩ := sim_new (m := .open) (rest := List.replicate (C - x.size) (Value.int .u8 0)) (k := C - x.size) hr0 (by simp) hcs (by simp) (fun _ => by simp [szOf, hi, hi1]) hk
    let A : Array Value := ((x.data.toList.map fun b => Value.int .u8 b.toNat) ++ List.replicate (C - x.size) (Value.int .u8 0)).toArray
    have hA : (x.data.map fun b => Value.int .u8 b.toNat) ++ Array.replicate (C - x.size) (Value.int .u8 0) = A := by
      apply Array.ext'; simp [A]
    let w1 := w0.alloc (.cells A e)
    have hw1 : w1.heap[w0.heap.size]? = some (.cells A e (0, 0)) := alloc_get_new _ _
    have hlt : w0.heap.size < w1.heap.size := by simp [w1]
    have hfr : w1.freeze { block := w0.heap.size, off := A.size } 1 = setBlk w1 w0.heap.size (.cells A e (A.size, A.size + 1)) := by
      simp only [World.freeze, setBlk]
      rw [if_neg (by simp)]
      congr 1
      apply Array.ext_getElem?
      intro j
      rw [Array.getElem?_modify, Array.getElem?_setIfInBounds]
      by_cases hj : w0.heap.size = j
      · subst hj; simp only [if_true, hw1, Option.map_some, hlt]; simp
      · simp [hj]
    have hrun : (convert s d (.string x)).run P w = .ok (.slice (some ⟨w0.heap.size, 0, none⟩) x.size C) (setBlk w1 w0.heap.size (.cells A e (A.size, A.size + 1))) := by
      rw [hcv]
      have hsh : w1.shape? w0.heap.size = some (e, A.size) := by simp [World.shape?, hw1]
      simp only [Conv.stringToBytes, Sem.run_bind, hch, Result.andThen_ok, newRow, run_newObj, Sem.run_pure, hA, markStringish, run_shape]
      have : (({ w0 with heap := w0.heap.push (.cells A e) } : World).shape? w0.heap.size) = some (e, A.size) := hsh
      simp only [this, run_freeze, Result.andThen_ok]
      congr 1
    refine ⟨_, _, ι', .slice (some ⟨b, 0, none⟩) x.size x.size, _, hrun, h1, ?_, ?_, h4⟩
    · obtain ⟨ccs, CE, lo, hi', g1, g2, g3, g4, g5, g6⟩ := h3.obj' (upd_same _ _ _) h2
      have hcc : ccs = A ∧ CE = e := by
        have : w1.heap[w0.heap.size]? = some (.cells ccs CE (lo, hi')) := g1
        rw [hw1] at this; cases this; exact ⟨rfl, rfl⟩
      obtain ⟨rfl, rfl⟩ := hcc
      have hset := h3.set (w' := setBlk w1 w0.heap.size (.cells A CE (A.size, A.size + 1))) (o' := .cells (x.data.toList.map fun b => Value.int .u8 b.toNat) CE .open) (upd_same _ _ _) h2 rfl (setBlk_size _ _ _) (fun c hc => setBlk_ne _ _ hc) rfl rfl rfl hr0.below.size
        (fun es cl he => by rw [setBlk_same _ _ hlt] at he; cases he) ⟨A, CE, A.size, A.size + 1, setBlk_same _ _ hlt, g2, g3, fun hm => ⟨(g4 hm).1, fun j hj => by omega⟩, g5, g6⟩
      have : upd (upd h b (.cells (x.data.toList.map fun b => Value.int .u8 b.toNat) CE .open)) b (.cells (x.data.toList.map fun b => Value.int .u8 b.toNat) CE .open) = upd h b (.cells (x.data.toList.map fun b => Value.int .u8 b.toNat) CE .open) := by
        funext c; unfold upd; split <;> rfl
      rw [this] at hset; exact hset
    · have := vrel_slice_new (len := x.size) h2
      rw [show x.size + (C - x.size) = C by omega] at this
      exact this
  · exact hk.elim

theorem upd_id {h : H} {b : Nat} {o : AObj} (hb : h b = some o) : upd h b o = h := by
  funext c; unfold upd; split
  · rename_i e; rw [e, hb]
  · rfl
theorem sim_mark {s d e : TypeId} {x cx : Value} {K : Value → H → Prop} (hs : ∃ e', P.underlying s = some (.slice e')) (hd : P.underlying d = some (.slice e)) (he : P.underlying e = some (.int .u8)) (hsd : s = d)
    (hr : HRel P W ι h w) (hx : VRel ι x cx) (hk : o_mark x h fun v => K v h) : Sim P W ι (convert s d cx) w K := by
  obtain ⟨e', hs⟩ := hs
  unfold o_mark at hk
  split at hk
  · rename_i b o n c
    split at hk
    · rename_i cs E m hb
      obtain ⟨hm, hk⟩ := hk
      rcases hx.slice with ⟨l, hl, he'⟩ | ⟨_, _, h0, _⟩ | ⟨_, _, h0, _⟩
      · subst he'
        obtain ⟨ccs, CE, lo, hi, g1, g2, g3, g4, g5, g6⟩ := hr.obj' hb hl
        obtain ⟨hB, hfz⟩ := g4 hm
        have hlt := hr.inb b l hl
        obtain ⟨fz, hfz1, hfr⟩ : ∃ fz : Nat × Nat, (∀ i, i < ccs.size → ¬(fz.1 ≤ i ∧ fz.1 ≠ fz.2)) ∧ w.freeze { block := l.b, off := ccs.size } 1 = setBlk w l.b (.cells ccs CE fz) := by
          refine ⟨if lo = hi then (ccs.size, ccs.size + 1) else (min lo ccs.size, max hi (ccs.size + 1)), ?_, ?_⟩
          · intro i hi2
            have := hfz i hi2
            split
            · simp only; omega
            · simp only; omega
          · simp only [World.freeze, setBlk]
            rw [if_neg (by simp)]
            congr 1
            apply Array.ext_getElem?
            intro j
            rw [Array.getElem?_modify, Array.getElem?_setIfInBounds]
            by_cases hj : l.b = j
            · subst hj; simp only [if_true, g1, Option.map_some, hlt]; simp
            · simp [hj]
        have hsh : w.shape? l.b = some (CE, ccs.size) := by simp [World.shape?, g1]
        have hrun : (convert s d (.slice (some ⟨l.b, l.o + o, none⟩) n (c + l.k))).run P w = .ok (.slice (some ⟨l.b, l.o + o, none⟩) n (c + l.k)) (setBlk w l.b (.cells ccs CE fz)) := by
          subst hsd
          have hee : e' = e := by rw [hs] at hd; cases hd; rfl
          subst hee
          rw [← hfr]
          simp [convert, run_und hs, run_und he, markStringish, run_shape, hsh, run_freeze]
        refine ⟨_, _, ι, .slice (some ⟨b, o, none⟩) n c, h, hrun, Env.le_refl _, ?_, .a (.c (.s (.slice hl))), hk⟩
        have hset := hr.set (w' := setBlk w l.b (.cells ccs CE fz)) (o' := .cells cs E m) hb hl (by cases m <;> first | rfl | exact absurd rfl hm) (setBlk_size _ _ _) (fun c hc => setBlk_ne _ _ hc) rfl rfl rfl hB
          (fun es cl he => by rw [setBlk_same _ _ hlt] at he; cases he) ⟨ccs, CE, fz.1, fz.2, setBlk_same _ _ hlt, g2, g3, fun _ => ⟨hB, hfz1⟩, g5, g6⟩
        rw [upd_id hb] at hset; exact hset
      · obtain ⟨l, hl, _⟩ := hr.obj _ _ hb; rw [h0, hr.z0] at hl; cases hl
      · obtain ⟨l, hl, _⟩ := hr.obj _ _ hb; rw [h0, hr.z1] at hl; cases hl
    · exact hk.elim
  · exact hk.elim
end
end Go.Proofs.YtjdhldfeflmneaaGreat.AM
