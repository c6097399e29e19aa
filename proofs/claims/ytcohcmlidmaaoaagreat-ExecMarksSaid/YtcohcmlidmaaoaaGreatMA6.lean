/-
  The machine that the law begins with.
-/
import Derived.Test.YtcohcmlidmaaoaaGreatMA5
import Derived.Test.YtcohcmlidmaaoaaGreatQM0
set_option linter.unusedSimpArgs false
set_option linter.unusedVariables false
set_option maxRecDepth 100000
namespace Go.Proofs.YtcohcmlidmaaoaaGreat
open AM
theorem LQ_out {C : CallF} {q : LQ} (h : q.Ok C) : ∃ eh, C q.f q.args (mkEH q.inp) q.n = some (q.v, eh, q.n') ∧ ∀ p ∈ q.objs, eh.get p.1 = some p.2 := by
  have hr := h.run
  cases hc : C q.f q.args (mkEH q.inp) q.n with
  | none => rw [hc] at hr; cases hr
  | some r =>
    obtain ⟨v, eh, n⟩ := r
    rw [hc] at hr
    simp only [pickR, Option.some.injEq, Prod.mk.injEq, List.map_map] at hr
    obtain ⟨rfl, h2, rfl⟩ := hr
    exact ⟨eh, rfl, fun p hp => (List.map_inj_left.1 h2) p hp⟩
theorem ptr_of {ρ : Ren} {b o : Nat} {v : Value} (h : RC ρ (.pointer (some ⟨b, o, none⟩)) v) : ∃ b' t, ρ b = some (b', t) ∧ v = .pointer (some ⟨b', o, none⟩) := by
  cases h with
  | s h =>
    cases h with
    | self h => cases h
    | ptr h => exact ⟨_, _, h, rfl⟩
theorem map_of {ρ : Ren} {b : Nat} {v : Value} (h : RC ρ (.map (some b)) v) : ∃ b' t, ρ b = some (b', t) ∧ v = .map (some b') := by
  cases h with
  | s h =>
    cases h with
    | self h => cases h
    | map h => exact ⟨_, _, h, rfl⟩
theorem self_of {ρ : Ren} {v w : Value} (hs : selfC v = true) (h : RC ρ v w) : w = v := by
  cases h with
  | s h =>
    cases h with
    | self h => rfl
    | ptr h => cases hs
    | slice h => cases hs
    | map h => cases hs
  | func f h k =>
    rename_i xs ys xs' ys'
    simp only [selfC, Bool.and_eq_true, beq_iff_eq] at hs
    have e1 : xs = #[] := Array.eq_empty_of_size_eq_zero hs.1
    have e2 : ys = #[] := Array.eq_empty_of_size_eq_zero hs.2
    subst e1 e2
    have l1 := h.length
    have l2 := k.length
    simp at l1 l2
    have e3 : xs' = #[] := Array.eq_empty_of_size_eq_zero (by simpa using l1.symm)
    have e4 : ys' = #[] := Array.eq_empty_of_size_eq_zero (by simpa using l2.symm)
    subst e3 e4; rfl
  | yield h => cases hs
  | iface t h => cases hs
theorem get2 {α β : Type} {R : α → β → Prop} {l : List α} {m : List β} (h : All2 R l m) {i : Nat} {a : α} (ha : l[i]? = some a) : ∃ b, m[i]? = some b ∧ R a b := by
  induction h generalizing i with
  | nil => cases ha
  | cons h t ih =>
    cases i with
    | zero => simp at ha; subst ha; exact ⟨_, rfl, h⟩
    | succ i => exact ih (i := i) (by simpa using ha)
def isU8 : Value → Bool
  | .int .u8 _ => true
  | _ => false
theorem isU8_eq {v : Value} (h : isU8 v = true) : ∃ x : Int, v = .int .u8 x := by
  unfold isU8 at h; split at h
  · exact ⟨_, rfl⟩
  · cases h
section
variable {F : H} {ρ : Ren} {n : Nat} {eh : EH} {h : H}
theorem page_of (hs : XSim F ρ n eh h) {b b' : Nat} {t : LObj} {r : R} {E : TypeId} {w : Int} (hg : eh.get b = some (.cells r E .exact)) (hb : ρ b = some (b', t)) (hl : Nat.beq r.toL.length 257 = true) (hw : r.toL[256]? = some (.int .i64 w)) (hu : (r.toL.take 256).all isU8 = true) : PgH h b' w := by
  obtain ⟨cs, h1, h2⟩ := hs.cells hg hb
  have hl := Nat.eq_of_beq_eq_true hl
  refine ⟨cs, E, h1, by rw [← h2.length]; exact hl, ?_, fun i hi => ?_⟩
  · obtain ⟨v, q1, q2⟩ := get2 h2 hw
    rw [self_of rfl q2] at q1; exact q1
  · have hx : r.toL[i]? = some (r.toL[i]'(by omega)) := List.getElem?_eq_getElem (by omega)
    have hmem : r.toL[i]'(by omega) ∈ r.toL.take 256 := List.mem_of_getElem? (i := i) (by rw [List.getElem?_take_of_lt hi]; exact hx)
    obtain ⟨x, hx2⟩ := isU8_eq (List.all_eq_true.1 hu _ hmem)
    rw [hx2] at hx
    obtain ⟨v, q1, q2⟩ := get2 h2 hx
    rw [self_of rfl q2] at q1; exact ⟨x, q1⟩
theorem blk_of (hs : XSim F ρ n eh h) {b b' : Nat} {t : LObj} {r : R} {E : TypeId} (hg : eh.get b = some (.cells r E .exact)) (hb : ρ b = some (b', t)) : ∃ cs : List Value, h b' = some (.cells cs E .exact) ∧ cs.length = r.toL.length ∧ ∀ (i : Nat) v, r.toL[i]? = some v → ∃ w, cs[i]? = some w ∧ RC ρ v w := by
  obtain ⟨cs, h1, h2⟩ := hs.cells hg hb
  exact ⟨cs, h1, h2.length.symm, fun i v hv => get2 h2 hv⟩
end
def feedV : Value := .agg #[.slice none 0 0, .slice none 0 0, .slice none 0 0, .slice none 0 0, .slice none 0 0, .slice none 0 0]
def polV : Value := .agg #[.bool false, .slice none 0 0, .slice none 0 0]
theorem obj_in {i : Nat} {p : Nat × EO} (h : qm0.objs[i]? = some p) : p ∈ qm0.objs := List.mem_of_getElem? h
theorem pair_spec {h : H} {bw : Nat} {K : Value → H → Prop} (hb2 : 2 ≤ bw) (hbw : h bw = none) (hk : ∀ D w h', MH D ⟨4096, 0, 2⟩ h' → K (.tuple #[ptr D.m 0, ptr w 0]) h') :
    AM.Spec Tryz.prog 6 [.slice (some ⟨bw, 0, none⟩) 1 1, .slice none 0 0, .bool true, feedV, polV, .int .i64 30, .int .i64 0] (upd h bw (.cells [.int .u32 115] 27 .exact)) K := by
  obtain ⟨eh, hrun, hget⟩ := LQ_out qm0_ok
  obtain ⟨hle, hs⟩ := (XSim.start h).new hb2 hbw (o := .cells (.one (I .u32 115)) 27 .exact) (o' := .cells [.int .u32 115] 27 .exact) undefT rfl (.cells (.cons (.s (.self rfl)) .nil))
  refine (CC_ok _ _ _ _ _ hrun h _ _ [.slice (some ⟨bw, 0, none⟩) 1 1, .slice none 0 0, .bool true, feedV, polV, .int .i64 30, .int .i64 0] hs ?_).mono ?_
  · refine .cons (.c (.s (.slice (t := undefT) (by simp)))) (.cons (.c (.s (.self rfl))) (.cons (.c (.s (.self rfl))) (.cons (.agg ?_) (.cons (.agg ?_) (.cons (.c (.s (.self rfl))) (.cons (.c (.s (.self rfl))) .nil))))))
    · exact .cons (.s (.self rfl)) (.cons (.s (.self rfl)) (.cons (.s (.self rfl)) (.cons (.s (.self rfl)) (.cons (.s (.self rfl)) (.cons (.s (.self rfl)) .nil)))))
    · exact .cons (.s (.self rfl)) (.cons (.s (.self rfl)) (.cons (.s (.self rfl)) .nil))
  rintro v h' ⟨ρ, _, hs, hv⟩
  replace hs : XSim h ρ 305 eh h' := hs
  replace hv : RV ρ (.tup [.c (Pt 59 0), .c (Pt 124 0)]) v := hv
  have g59 := hget _ (obj_in (i := 5) rfl)
  have g60 := hget _ (obj_in (i := 6) rfl)
  have g61 := hget _ (obj_in (i := 7) rfl)
  have g62 := hget _ (obj_in (i := 8) rfl)
  have g66 := hget _ (obj_in (i := 11) rfl)
  have g71 := hget _ (obj_in (i := 15) rfl)
  obtain ⟨m, tm, rm, w, tw, hvv⟩ : ∃ m tm, ρ 59 = some (m, tm) ∧ ∃ w tw, v = .tuple #[ptr m 0, ptr w 0] ∧ ρ 124 = some (w, tw) := by
    cases hv with
    | tup hv =>
      rename_i vs
      obtain ⟨l⟩ := vs
      cases hv with
      | cons ha t =>
        cases t with
        | cons hb t =>
          cases t
          cases ha with
          | c ha =>
            cases hb with
            | c hb =>
              obtain ⟨a, ta, a1, rfl⟩ := ptr_of ha
              obtain ⟨b, tb, b1, rfl⟩ := ptr_of hb
              exact ⟨a, ta, a1, b, tb, rfl, b1⟩
  obtain ⟨rfl, rw_⟩ := hvv
  obtain ⟨cm, m1, m2, m3⟩ := blk_of hs g59 rm
  obtain ⟨q0, q1, q2⟩ := m3 0 (Pt 62 0) (by kernel_rfl)
  obtain ⟨q, tq, rq, rfl⟩ := ptr_of q2
  obtain ⟨p0, p1, p2⟩ := m3 34 (I .u32 4096) (by kernel_rfl)
  obtain rfl := self_of rfl p2
  obtain ⟨r0, r1, r2⟩ := m3 35 (I .i64 0) (by kernel_rfl)
  obtain rfl := self_of rfl r2
  obtain ⟨cq, n1, n2, n3⟩ := blk_of hs g62 rq
  obtain ⟨a0, a1, a2⟩ := n3 1 (.map (some 60)) (by kernel_rfl)
  obtain ⟨pm, tp, rp, rfl⟩ := map_of a2
  obtain ⟨b0, b1, b2⟩ := n3 2 (.map (some 61)) (by kernel_rfl)
  obtain ⟨gm, tg, rg, rfl⟩ := map_of b2
  obtain ⟨es, e1, e2⟩ := hs.map g60 rp
  obtain ⟨gs, f1, f2⟩ := hs.map g61 rg
  obtain ⟨v1, c1, c2⟩ := (xfind_rel (k := .int .u32 4096) e2).1 (.c (Pt 66 0)) (by kernel_rfl)
  obtain ⟨p1b, t1, rp1, rfl⟩ := ptr_of c2.toC
  obtain ⟨v2, d1, d2⟩ := (xfind_rel (k := .int .u32 65536) e2).1 (.c (Pt 71 0)) (by kernel_rfl)
  obtain ⟨p2b, t2, rp2, rfl⟩ := ptr_of d2.toC
  obtain ⟨v3, i1, i2⟩ := (xfind_rel (k := .int .u32 4096) f2).1 (.c (I .u32 2)) (by kernel_rfl)
  obtain rfl := self_of rfl i2.toC
  obtain ⟨v4, j1, j2⟩ := (xfind_rel (k := .int .u32 65536) f2).1 (.c (I .u32 1)) (by kernel_rfl)
  obtain rfl := self_of rfl j2.toC
  have P1 := page_of hs g66 rp1 (w := 7) (by kernel_rfl) (by kernel_rfl) (by kernel_rfl)
  have P2 := page_of hs g71 rp2 (w := 3) (by kernel_rfl) (by kernel_rfl) (by kernel_rfl)
  have inj : ∀ {b c : Nat} {o o' : EO} {x y : Nat} {t t' : LObj}, eh.get b = some o → isDead o = false → eh.get c = some o' → isDead o' = false → ρ b = some (x, t) → ρ c = some (y, t') → b ≠ c → x ≠ y := by
    intro b c o o' x y t t' h1 h2 h3 h4 h5 h6 hne he
    subst he
    exact hne (hs.inj _ _ _ _ _ _ _ h1 h2 h3 h4 h5 h6)
  refine hk ⟨m, q, pm, gm, p1b, p2b⟩ w h' ⟨?_, ⟨cm, _, m1, by rw [m2]; kernel_rfl, q1, p1, r1⟩, ⟨cq, _, n1, a1, b1⟩, ⟨es, _, e1, c1, d1⟩, ⟨gs, _, f1, i1, _, j1⟩, P1, P2⟩
  simp only [MD.bl, List.nodup_cons, List.mem_cons, List.not_mem_nil, or_false, not_or, List.nodup_nil, and_true, not_false_eq_true]
  refine ⟨⟨?_, ?_, ?_, ?_, ?_⟩, ⟨?_, ?_, ?_, ?_⟩, ⟨?_, ?_, ?_⟩, ⟨?_, ?_⟩, ?_⟩
  · exact inj g59 rfl g62 rfl rm rq (by decide)
  · exact inj g59 rfl g60 rfl rm rp (by decide)
  · exact inj g59 rfl g61 rfl rm rg (by decide)
  · exact inj g59 rfl g66 rfl rm rp1 (by decide)
  · exact inj g59 rfl g71 rfl rm rp2 (by decide)
  · exact inj g62 rfl g60 rfl rq rp (by decide)
  · exact inj g62 rfl g61 rfl rq rg (by decide)
  · exact inj g62 rfl g66 rfl rq rp1 (by decide)
  · exact inj g62 rfl g71 rfl rq rp2 (by decide)
  · exact inj g60 rfl g61 rfl rp rg (by decide)
  · exact inj g60 rfl g66 rfl rp rp1 (by decide)
  · exact inj g60 rfl g71 rfl rp rp2 (by decide)
  · exact inj g61 rfl g66 rfl rg rp1 (by decide)
  · exact inj g61 rfl g71 rfl rg rp2 (by decide)
  · exact inj g66 rfl g71 rfl rp1 rp2 (by decide)
end Go.Proofs.YtcohcmlidmaaoaaGreat
