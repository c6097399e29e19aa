/-
  What the machine's blocks hold; the memory's functions that a list of marks reaches; what a node does.
-/
import Derived.Test.YtcohcmlidmaaoaaGreatMG
import Derived.Test.YtcohcmlidmaaoaaGreatK1
import Derived.Test.YtcohcmlidmaaoaaGreatV2
set_option linter.unusedSimpArgs false
set_option linter.unusedVariables false
set_option maxRecDepth 100000
namespace Go.Proofs.YtcohcmlidmaaoaaGreat
open AM

/-- Where a machine lies. -/
structure MD where
  m : Nat
  q : Nat
  pm : Nat
  gm : Nat
  p1 : Nat
  p2 : Nat
def MD.bl (D : MD) : List Nat := [D.m, D.q, D.pm, D.gm, D.p1, D.p2]
structure PgH (h : H) (b : Nat) (w : Int) : Prop where
  ex : ∃ cs E, h b = some (.cells cs E .exact) ∧ cs.length = 257 ∧ cs[256]? = some (.int .i64 w) ∧ ∀ i, i < 256 → ∃ x : Int, cs[i]? = some (.int .u8 x)
abbrev ptr (b o : Nat) : Value := .pointer (some ⟨b, o, none⟩)
structure MH (D : MD) (s : St) (h : H) : Prop where
  nd : D.bl.Nodup
  m : ∃ cs E, h D.m = some (.cells cs E .exact) ∧ cs.length = 171 ∧ cs[0]? = some (ptr D.q 0) ∧ cs[34]? = some (.int .u32 s.pc) ∧ cs[35]? = some (.int .i64 s.ret)
  q : ∃ cs E, h D.q = some (.cells cs E .exact) ∧ cs[1]? = some (.map (some D.pm)) ∧ cs[2]? = some (.map (some D.gm))
  pm : ∃ es ck, h D.pm = some (.map (.int .u32) es ck) ∧ mfind es (.int .u32 4096) = some (ptr D.p1 0) ∧ mfind es (.int .u32 65536) = some (ptr D.p2 0)
  gm : ∃ es ck, h D.gm = some (.map (.int .u32) es ck) ∧ mfind es (.int .u32 4096) = some (.int .u32 s.g) ∧ ∃ x, mfind es (.int .u32 65536) = some (.int .u32 x)
  p1 : PgH h D.p1 7
  p2 : PgH h D.p2 3
section
variable {D : MD} {s : St} {h h' : H}
theorem PgH.keep {b : Nat} {w : Int} (hp : PgH h b w) (he : h' b = h b) : PgH h' b w := by
  obtain ⟨cs, E, h1, h2⟩ := hp.ex
  exact ⟨cs, E, by rw [he]; exact h1, h2⟩
theorem MH.keep (hm : MH D s h) (he : ∀ b ∈ D.bl, h' b = h b) : MH D s h' := by
  have e : ∀ b, b ∈ D.bl → h' b = h b := fun b hb => he b hb
  have i1 : D.m ∈ D.bl := by simp [MD.bl]
  have i2 : D.q ∈ D.bl := by simp [MD.bl]
  have i3 : D.pm ∈ D.bl := by simp [MD.bl]
  have i4 : D.gm ∈ D.bl := by simp [MD.bl]
  have i5 : D.p1 ∈ D.bl := by simp [MD.bl]
  have i6 : D.p2 ∈ D.bl := by simp [MD.bl]
  exact ⟨hm.nd, by rw [e _ i1]; exact hm.m, by rw [e _ i2]; exact hm.q, by rw [e _ i3]; exact hm.pm, by rw [e _ i4]; exact hm.gm, hm.p1.keep (e _ i5), hm.p2.keep (e _ i6)⟩
theorem MH.there (hm : MH D s h) {b : Nat} (hb : b ∈ D.bl) : h b ≠ none := by
  simp only [MD.bl, List.mem_cons, List.not_mem_nil, or_false] at hb
  obtain ⟨c1, E1, h1, _⟩ := hm.m
  obtain ⟨c2, E2, h2, _⟩ := hm.q
  obtain ⟨c3, E3, h3, _⟩ := hm.pm
  obtain ⟨c4, E4, h4, _⟩ := hm.gm
  obtain ⟨c5, E5, h5, _⟩ := hm.p1.ex
  obtain ⟨c6, E6, h6, _⟩ := hm.p2.ex
  rcases hb with rfl | rfl | rfl | rfl | rfl | rfl <;> simp [*]
theorem MH.fresh (hm : MH D s h) {b : Nat} (hb : h b = none) : b ∉ D.bl := fun hi => hm.there hi hb
theorem MH.upd (hm : MH D s h) {b : Nat} {o : AObj} (hb : b ∉ D.bl) : MH D s (AM.upd h b o) := hm.keep fun c hc => upd_ne _ _ fun e => hb (e ▸ hc)
theorem MH.sub (hm : MH D s h) (hs : Sub h h') : MH D s h' := by
  refine hm.keep fun b hb => ?_
  cases hq : h b with
  | none => exact absurd hq (hm.there hb)
  | some o => exact hs _ _ hq
theorem MH.ne (hm : MH D s h) : D.m ≠ D.q ∧ D.m ≠ D.pm ∧ D.m ≠ D.gm ∧ D.m ≠ D.p1 ∧ D.m ≠ D.p2 ∧ D.q ≠ D.pm ∧ D.q ≠ D.gm ∧ D.q ≠ D.p1 ∧ D.q ≠ D.p2 ∧ D.pm ≠ D.gm ∧ D.pm ≠ D.p1 ∧ D.pm ≠ D.p2 ∧ D.gm ≠ D.p1 ∧ D.gm ≠ D.p2 ∧ D.p1 ≠ D.p2 := by
  have := hm.nd
  simp only [MD.bl, List.nodup_cons, List.mem_cons, List.not_mem_nil, or_false, not_or, List.nodup_nil, and_true, not_false_eq_true] at this
  simp only [ne_eq]
  omega
theorem MH.setM (hm : MH D s h) {cs : List Value} {E : TypeId} {h2 : H} {s2 : St} (hg : s2.g = s.g) (hb : h2 = AM.upd h D.m (.cells cs E .exact)) (hl : cs.length = 171) (h0 : cs[0]? = some (ptr D.q 0)) (hp : cs[34]? = some (.int .u32 s2.pc)) (hr : cs[35]? = some (.int .i64 s2.ret)) : MH D s2 h2 := by
  subst hb
  have hn := hm.ne
  exact ⟨hm.nd, ⟨cs, E, upd_same _ _ _, hl, h0, hp, hr⟩, by rw [upd_ne _ _ (by omega)]; exact hm.q, by rw [upd_ne _ _ (by omega)]; exact hm.pm, by rw [upd_ne _ _ (by omega), hg]; exact hm.gm, hm.p1.keep (upd_ne _ _ (show D.p1 ≠ D.m by omega)), hm.p2.keep (upd_ne _ _ (show D.p2 ≠ D.m by omega))⟩

theorem mfind_mset_same {es : List (Value × Value)} {k v : Value} (hk : keyEq k k = true) : mfind (mset es k v) k = some v := by
  induction es with
  | nil => simp [mset, mfind, hk]
  | cons e r ih =>
    simp only [mset]
    cases he : keyEq k e.1
    · simp only [cond_false, mfind, he]; exact ih
    · simp only [cond_true, mfind, hk]
theorem mfind_mset_ne {es : List (Value × Value)} {a b : Int} {v : Value} (hab : a ≠ b) : mfind (mset es (.int .u32 a) v) (.int .u32 b) = mfind es (.int .u32 b) := by
  have hne : keyEq (.int .u32 b) (.int .u32 a) = false := by simp [keyEq]; omega
  induction es with
  | nil => simp [mset, mfind, hne]
  | cons e r ih =>
    simp only [mset]
    cases he : keyEq (.int .u32 a) e.1
    · simp only [cond_false, mfind, ih]
    · simp only [cond_true, mfind, hne, cond_false]
      have : keyEq (.int .u32 b) e.1 = false := by
        obtain ⟨e1, e2⟩ := e
        simp only at he ⊢
        unfold keyEq at he
        split at he <;> simp_all
        done
      rw [this]; rfl

theorem base4096 {a : Nat} (h1 : 4096 ≤ a) (h2 : a < 4352) : a - a % 256 = 4096 := by omega
theorem gen_spec {K : Value → H → Prop} (hm : MH D s h) (hk : K (.int .u32 s.g) h) : AM.Spec Tryz.prog 53 [ptr D.q 0, .int .u32 4096] h K := by
  refine F53_spec _ _ _ _ ?_
  unfold F53 F53_0 F53_1 F53_2 F53_3
  obtain ⟨cq, Eq, hq, _, hq2⟩ := hm.q
  obtain ⟨es, ck, hg, hg1, _⟩ := hm.gm
  simp only [nil_ptr, field_addr, Nat.zero_add]
  rw [load_cell (v := .map (some D.gm)) (by rw [cellAt_of hq]; exact hq2)]
  have hb := dcall_base (a := 4096) (K := fun v10 h => o_lookup (.int .u32) (.int .u32 0) (.map (some D.gm)) v10 false h fun v11 => K v11 h) (h := h) (by decide)
  refine hb.mpr ?_
  unfold o_lookup
  refine ⟨rfl, ?_⟩
  simp only [hg]
  have e : ((4096 - 4096 % 256 : Nat) : Int) = 4096 := rfl
  rw [e, hg1]
  exact ⟨trivial, hk⟩
theorem eqlPg {a : Addr} {K : Value → Prop} : o_bin Tryz.prog .eql 231 (.pointer (some a)) (.pointer none) K = K (.bool false) := by
  have hu : Tryz.prog.underlying 231 = some (.pointer 233) := by kernel_rfl
  unfold o_bin
  have : (selfV (.pointer (some a)) && selfV (.pointer none) && okEq Tryz.prog .eql 231 (.pointer (some a)) (.pointer none)) = false := rfl
  simp only [this, cond_false, hu]
  rfl
/-- Where a place's page lies. -/
def pgOf (D : MD) (a : Int) : Nat := if a = 4200 then D.p1 else D.p2
theorem look_spec {K : Value → H → Prop} {a : Int} (ha : a = 4200 ∨ a = 65536) (hm : MH D s h) (hk : K (.tuple #[ptr (pgOf D a) 0, .int .i64 0]) h) : AM.Spec Tryz.prog 98 [ptr D.q 0, .int .u32 a, .int .i64 4, .int .i64 2] h K := by
  refine F98_spec _ _ _ _ _ _ ?_
  unfold F98 F98_0
  have e1 : IntKind.u32.wrap 4 = 4 := rfl
  have e2 : a.tmod 4 = 0 := by rcases ha with rfl | rfl <;> rfl
  have d1 : decide ((4 : Int) = 1) = false := rfl
  have d2 : decide ((4 : Int) = 2) = false := rfl
  have d4 : decide ((4 : Int) = 4) = true := rfl
  have d0 : decide ((0 : Int) = 0) = true := rfl
  simp only [bin_neq, d1, d2, d4, d0, e2, decide_true, Bool.not_true, Bool.not_false, guard_tt, guard_ff, guard_ft, guard_tf, pick_true, pick_false, conv_int, e1, bin_rem (show (4 : Int) ≠ 0 by decide), if_false']
  unfold F98_1 F98_2
  obtain ⟨cq, Eq, hq, hq1, _⟩ := hm.q
  obtain ⟨es, ck, hp, hp1, hp2⟩ := hm.pm
  simp only [nil_ptr, field_addr, Nat.zero_add]
  rw [load_cell (v := .map (some D.pm)) (by rw [cellAt_of hq]; exact hq1)]
  have hw : ∃ w, (w = 7 ∨ w = 3) ∧ PgH h (pgOf D a) w := by
    unfold pgOf
    split
    · exact ⟨7, .inl rfl, hm.p1⟩
    · exact ⟨3, .inr rfl, hm.p2⟩
  obtain ⟨w, hw1, hw2⟩ := hw
  obtain ⟨cs, E, hb, hl, h256, _⟩ := hw2.ex
  have hf : mfind es (.int .u32 (a - a % 256)) = some (ptr (pgOf D a) 0) := by
    rcases ha with rfl | rfl
    · exact hp1
    · exact hp2
  obtain ⟨n, rfl⟩ : ∃ n : Nat, a = n := ⟨a.toNat, by omega⟩
  have hdc := fun K : Value → H → Prop => dcall_base (a := n) (K := K) (h := h) (by omega)
  rw [hdc]
  unfold o_lookup
  refine ⟨rfl, ?_⟩
  simp only [hp]
  have e : ((n - n % 256 : Nat) : Int) = (n : Int) - (n : Int) % 256 := by omega
  rw [e, hf]
  refine ⟨trivial, ?_⟩
  unfold F98_3
  show o_bin _ _ _ _ _ _
  simp only [cond_false]
  rw [eqlPg, if_false']
  simp only [nil_ptr, field_addr, Nat.zero_add]
  rw [load_cell (v := .int .i64 w) (by rw [cellAt_of hb]; exact h256), bin_and]
  have e5 : IntKind.i64.wrap (BitVec.ofInt IntKind.i64.bits w &&& BitVec.ofInt IntKind.i64.bits 2).toNat = 2 := by
    rcases hw1 with rfl | rfl <;> rfl
  rw [e5, bin_neq]
  have d5 : (!decide ((2 : Int) = 2)) = false := rfl
  rw [d5, if_false']
  exact hk
end
end Go.Proofs.YtcohcmlidmaaoaaGreat
