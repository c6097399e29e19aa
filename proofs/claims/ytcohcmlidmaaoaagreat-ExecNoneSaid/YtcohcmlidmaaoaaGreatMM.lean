/-
  The inner loop of mem2, told ahead: a page's bytes, all at once; mem2 by the executor.
-/
import Derived.Test.YtcohcmlidmaaoaaGreatMMP
import Derived.Test.YtcohcmlidmaaoaaGreatBYL
import Derived.Test.YtcohcmlidmaaoaaGreatX12
import Derived.Test.YtcohcmlidmaaoaaGreatPG2
import Derived.KernelRfl
set_option linter.unusedVariables false
set_option linter.unusedSimpArgs false
set_option maxRecDepth 100000
namespace Go.Proofs.YtcohcmlidmaaoaaGreat
open Go.Proofs.YtcohcmlidmaaoaaGreat.AM
section
variable {h : H}
theorem sl_out : ∀ {vs cs : List Value} {o i : Nat}, (i < o ∨ o + vs.length ≤ i) → (setL cs o vs)[i]? = cs[i]?
  | [], _, _, _, _ => rfl
  | v :: vs, cs, o, i, h => by
    rw [setL, sl_out (by simp only [List.length_cons] at h; omega), List.getElem?_set_ne (by simp only [List.length_cons] at h; omega)]
theorem sl_in : ∀ {vs cs : List Value} {o i : Nat}, o ≤ i → i < o + vs.length → o + vs.length ≤ cs.length → (setL cs o vs)[i]? = vs[i - o]?
  | [], _, _, _, h1, h2, _ => by simp at h2; omega
  | v :: vs, cs, o, i, h1, h2, h3 => by
    simp only [List.length_cons] at h2 h3
    rw [setL]
    by_cases he : o = i
    · subst he
      rw [sl_out (.inl (by omega)), List.getElem?_set_self (by omega)]; simp
    · rw [sl_in (by omega) (by omega) (by simp; omega)]
      have : i - o = (i - (o + 1)) + 1 := by omega
      rw [this, List.getElem?_cons_succ]
theorem sl_snoc : ∀ (vs cs : List Value) (o : Nat) (v : Value), setL cs o (vs ++ [v]) = (setL cs o vs).set (o + vs.length) v
  | [], cs, o, v => by simp [setL]
  | w :: vs, cs, o, v => by
    simp only [List.cons_append, setL, List.length_cons]
    rw [sl_snoc vs _ (o + 1) v]
    congr 1; omega
theorem loop26 {x69 : Value} {mb mo pm ck sb so sn sc i p pb po qb : Nat} {w : Int} {es : List (Value × Value)} {bs cq : List Value} {E : TypeId} {Kn : Value → Value → Value → Value → Value → Value → H → Prop} {Kr : Value → Value → H → Prop} {Ke1 : Value → Value → Value → Value → Value → H → Prop} {Ke0 : Value → Value → H → Prop} {x5 : Value}
    (hc : AM.cellAt h mb (mo + 1) = some (.map (some pm))) (hpm : h pm = some (.map (.int .u32) es ck)) (hi : i < sn) (hsi : AM.cellAt h sb (so + i) = some (.int .u32 (p : Nat))) (hp : p % 256 = 0) (hp2 : p + 256 ≤ 4294967296)
    (hf : mfind es (.int .u32 (p : Nat)) = some (.pointer (some ⟨pb, po, none⟩))) (hw : AM.cellAt h pb (po + 256) = some (.int .i64 w)) (hbl : bs.length = 256) (hby : ∀ j, j < 256 → ∃ x : Int, 0 ≤ x ∧ x < 256 ∧ bs[j]? = some (.int .u8 x) ∧ AM.cellAt h pb (po + j) = some (.int .u8 x))
    (hq : h qb = some (.cells cq E .exact)) (hql : cq.length = 258) (n1 : qb ≠ mb) (n2 : qb ≠ sb) (n3 : qb ≠ pb)
    (hk : Kn (.pointer (some ⟨mb, mo, none⟩)) x5 (.slice (some ⟨sb, so, none⟩) sn sc) (.int .i64 (i : Nat)) (.pointer (some ⟨qb, 0, none⟩)) x69 (upd h qb (.cells (setL cq 2 bs) E .exact))) :
    F26_10 (.pointer (some ⟨mb, mo, none⟩)) x5 (.slice (some ⟨sb, so, none⟩) sn sc) (.int .i64 (i : Nat)) (.pointer (some ⟨qb, 0, none⟩)) x69 h Kn Kr Ke1 Ke0 := by
  unfold F26_10 F26_11 F26_12
  have uu : ∀ q q' : AObj, upd (upd h qb q) qb q' = upd h qb q' := fun q q' => by funext c; unfold upd; split <;> rfl
  have hnp : qb ≠ pm := fun e => by rw [e, hpm] at hq; cases hq
  refine ⟨fun m s h' => ∃ j : Nat, j ≤ 256 ∧ m = 256 - j ∧ s = (.pointer (some ⟨mb, mo, none⟩), x5, .slice (some ⟨sb, so, none⟩) sn sc, .int .i64 (i : Nat), .pointer (some ⟨qb, 0, none⟩), .int .u32 (j : Nat), x69) ∧ h' = upd h qb (.cells (setL cq 2 (bs.take j)) E .exact), ⟨256, 0, by omega, rfl, rfl, ?_⟩, ?_⟩
  · funext c
    unfold upd
    split
    · rename_i e; rw [e]; exact hq
    · rfl
  rintro m s h' ⟨j, hj, rfl, rfl, rfl⟩
  simp only [F26_13, bin_lss]
  have keep : ∀ b o, b ≠ qb → AM.cellAt (upd h qb (.cells (setL cq 2 (bs.take j)) E .exact)) b o = AM.cellAt h b o := fun b o hb => by unfold AM.cellAt; rw [upd_ne _ _ hb]
  by_cases hlt : j < 256
  · have d1 : decide ((j : Int) < 256) = true := by simp; omega
    rw [d1, if_true', index_sl (by omega) (by omega)]
    have e1 : so + ((i : Int)).toNat * 1 = so + i := by simp
    rw [e1, load_cell (v := .int .u32 (p : Nat)) (by rw [keep _ _ n2.symm]; exact hsi), bin_add]
    have e2 : IntKind.u32.wrap ((p : Int) + (j : Int)) = ((p + j : Nat) : Int) := by rw [wrapu32 (by omega) (by omega)]; omega
    rw [e2]
    obtain ⟨x, x0, x1, x2, x3⟩ := hby j hlt
    have ha : p + j - (p + j) % 256 = p := by omega
    have hr : (p + j) % 256 = j := by omega
    refine ⟨rfl, load_ok (by rw [keep _ _ n1.symm]; exact hc) (by rw [upd_ne _ _ hnp.symm]; exact hpm) (by omega) (by rw [ha]; exact hf) (by rw [keep _ _ n3.symm]; exact hw) (by rw [hr, keep _ _ n3.symm]; exact x3) x0 x1 ?_⟩
    rw [ex0, ex1, conv_int]
    have e3 : IntKind.u8.wrap x = x := by
      refine wrap_id ?_ ?_ <;> simp [IntKind.min, IntKind.max, IntKind.signed, IntKind.bits] <;> omega
    rw [e3, field_addr, index_arr (by omega) (by omega)]
    have e4 : 0 + 2 + ((j : Int)).toNat * 1 = 2 + j := by simp
    rw [e4, store_ok (upd_same _ _ _) (by simp) (by rfl) (by rfl) (by rw [setL_length]; omega), uu, bin_add]
    have e5 : IntKind.u32.wrap ((j : Int) + 1) = ((j + 1 : Nat) : Int) := by rw [wrapu32 (by omega) (by omega)]; omega
    rw [e5]
    refine ⟨256 - (j + 1), by omega, j + 1, by omega, rfl, rfl, ?_⟩
    have htl : (bs.take j).length = j := by rw [List.length_take]; omega
    rw [List.take_add_one, x2]
    simp only [Option.toList_some]
    rw [sl_snoc, htl]
    rfl
  · have d1 : decide ((j : Int) < 256) = false := by simp; omega
    rw [d1, if_false']
    have : j = 256 := by omega
    subst this
    rw [List.take_of_length_le (by omega)]
    exact hk
end
noncomputable section
def path26 : List Stp := [.R, .R, .R, .L, .R, .B, .P, .R, .L, .B, .R, .R, .L]
@[reducible] noncomputable def lp26 : Code := seqL (rest 2 (blkC (seqL (rest 1 (lopC (blkC (rest 1 (seqL (rest 3 (bodyOf Tryz.f26.body))))))))))
theorem at26 : codeAt path26 (bodyOf Tryz.f26.body) = lp26 := by kernel_rfl
noncomputable def keepN (t : XT) : List Nat → XT → XT
  | [], r => r
  | d :: l, r => (match t.get d with
    | some v => (keepN t l r).set d v
    | none => keepN t l r)
theorem keepN_get {t : XT} {i : Nat} {v : XV} : ∀ {l : List Nat}, (keepN t l (XT.new 0)).get i = some v → i ∈ l ∧ t.get i = some v
  | [], h => by simp only [keepN, XT.get_new] at h; cases h
  | d :: l, h => by
    simp only [keepN] at h
    split at h
    · rename_i w hw
      rw [XT.get_set] at h
      by_cases e : i = d
      · rw [if_pos e] at h; cases h
        exact ⟨by rw [e]; exact .head _, by rw [e]; exact hw⟩
      · rw [if_neg e] at h
        obtain ⟨h1, h2⟩ := keepN_get h
        exact ⟨.tail _ h1, h2⟩
    · obtain ⟨h1, h2⟩ := keepN_get h
      exact ⟨.tail _ h1, h2⟩
def fast26 (s : XS) : Option (XE × XS) :=
  match s.t.get 0, s.t.get 6, s.t.get 7, s.t.get 8 with
  | some (.a (.c (.pointer (some ⟨mb, mo, none⟩)))), some (.a (.c (.slice (some ⟨sb, so, none⟩) sn sc))), some (.a (.c (.int .i64 (.ofNat i)))), some (.a (.c (.pointer (some ⟨qb, 0, none⟩)))) =>
    (match cellX s.h sb (so + i), cellX s.h mb (mo + 1), s.h.get qb with
    | some (.int .u32 (.ofNat p)), some (.map (some pm)), some (.cells rq E .exact) => (match s.h.get pm with
      | some (.map (.int .u32) es _) => (match xfind es (.int .u32 (.ofNat p)) with
        | some (.c (.pointer (some ⟨pb, 0, none⟩))) => (match s.h.get pb with
          | some (.cells rp _ _) => (match rp.get 256 with
            | some (.int .i64 _) => bc (Nat.blt i sn) (bc (Nat.beq rq.size 258) (bc (Nat.beq rp.size 257) (bc (Nat.beq (Nat.mod p 256) 0) (bc (Nat.ble (p + 256) 4294967296) (bc (allU8 (rp.take 256)) (bc (!Nat.beq qb mb && (!Nat.beq qb sb && !Nat.beq qb pb))
                (some (.normal, ⟨keepN s.t [0, 5, 6, 7, 8] (XT.new 0), s.h.set qb (.cells (.cat (rq.take 2) (rp.take 256)) E .exact), s.n, s.ms⟩)) none) none) none) none) none) none) none
            | _ => none)
          | _ => none)
        | _ => none)
      | _ => none)
    | _, _, _ => none)
  | _, _, _, _ => none
theorem ne_of {a b : Nat} (h : (!Nat.beq a b) = true) : a ≠ b := by
  rintro rfl
  rw [Nat.beq_refl] at h; cases h
theorem fast26_ok : RunAt Tryz.prog fast26 69 lp26 := by
  intro s e s' he F ρ h T Q hs hk
  unfold fast26 at he
  split at he
  rotate_left
  · cases he
  rename_i mb mo sb so sn sc i qb g0 g6 g7 g8
  split at he
  rotate_left
  · cases he
  rename_i p pm rq E c1 c2 gq
  split at he
  rotate_left
  · cases he
  rename_i es ck ges
  split at he
  rotate_left
  · cases he
  rename_i pb gpb
  split at he
  rotate_left
  · cases he
  rename_i rp E2 w2 grp
  split at he
  rotate_left
  · cases he
  rename_i wi hwi
  cases k1 : Nat.blt i sn
  · rw [k1] at he; cases he
  cases k2 : Nat.beq rq.size 258
  · rw [k1, k2] at he; cases he
  cases k3 : Nat.beq rp.size 257
  · rw [k1, k2, k3] at he; cases he
  cases k4 : Nat.beq (Nat.mod p 256) 0
  · rw [k1, k2, k3, k4] at he; cases he
  cases k5 : Nat.ble (p + 256) 4294967296
  · rw [k1, k2, k3, k4, k5] at he; cases he
  cases k6 : allU8 (rp.take 256)
  · rw [k1, k2, k3, k4, k5, k6] at he; cases he
  cases k7 : (!Nat.beq qb mb && (!Nat.beq qb sb && !Nat.beq qb pb))
  · rw [k1, k2, k3, k4, k5, k6, k7] at he; cases he
  rw [k1, k2, k3, k4, k5, k6, k7] at he
  simp only [bc_true] at he
  cases he
  obtain ⟨hx, ht, hmr⟩ := hs
  obtain ⟨mb', tm, hmb, e0⟩ : ∃ b' t, ρ mb = some (b', t) ∧ T 0 = .pointer (some ⟨b', mo, none⟩) := by
    cases ht _ _ g0 with | a hv => exact hv.toC.ptr
  obtain ⟨sb', ts, hsb, e6⟩ : ∃ b' t, ρ sb = some (b', t) ∧ T 6 = .slice (some ⟨b', so, none⟩) sn sc := by
    cases ht _ _ g6 with | a hv => exact hv.toC.sl
  have e7 : T 7 = .int .i64 (i : Nat) := by cases ht _ _ g7 with | a hv => exact hv.toC.self_eq rfl
  obtain ⟨qb', tq, hqb, e8⟩ : ∃ b' t, ρ qb = some (b', t) ∧ T 8 = .pointer (some ⟨b', 0, none⟩) := by
    cases ht _ _ g8 with | a hv => exact hv.toC.ptr
  obtain ⟨v1, a1, a2⟩ := cellX_of hx hsb c1
  obtain rfl := a2.self_eq rfl
  obtain ⟨v2, b1, b2⟩ := cellX_of hx hmb c2
  obtain ⟨pm', tp, hpm, rfl⟩ := b2.mp
  obtain ⟨es', f1, f2⟩ := hx.map ges hpm
  obtain ⟨v3, d1, d2⟩ := (xfind_rel f2).1 _ gpb
  obtain ⟨pb', tb, hpb, rfl⟩ := d2.toC.ptr
  obtain ⟨cp, q1, q2⟩ := hx.cells grp hpb
  obtain ⟨cq, r1, r2⟩ := hx.cells gq hqb
  simp only [Bool.and_eq_true] at k7
  have live : ∀ {b : Nat} {o : EO}, s.h.get b = some o → isDead o = false → ∀ {b' x : Nat} {t t' : LObj}, ρ b = some (b', t) → ρ qb = some (x, t') → b ≠ qb → b' ≠ x := by
    intro b o hb hd b' x t t' h1 h2 hne he
    subst he
    exact hne (hx.inj _ _ _ _ _ _ _ hb hd gq rfl h1 h2)
  have cellLive : ∀ {b o : Nat} {v : Value}, cellX s.h b o = some v → ∃ q, s.h.get b = some q ∧ isDead q = false := by
    intro b o v hv
    unfold cellX at hv
    split at hv
    · rename_i r E w hg
      exact ⟨_, hg, rfl⟩
    · cases hv
  obtain ⟨om, gm, dm⟩ := cellLive c2
  obtain ⟨os, gs, ds⟩ := cellLive c1
  have m1 : qb' ≠ mb' := (live gm dm hmb hqb (ne_of k7.1).symm).symm
  have m2 : qb' ≠ sb' := (live gs ds hsb hqb (ne_of k7.2.1).symm).symm
  have m3 : qb' ≠ pb' := (live grp rfl hpb hqb (ne_of k7.2.2).symm).symm
  have hu := allU8_ok k6
  have k3' := Nat.eq_of_beq_eq_true k3
  rw [R.size_eq] at k3'
  have k2' := Nat.eq_of_beq_eq_true k2
  rw [R.size_eq] at k2'
  rw [R.take_toL] at hu
  have hcql : cq.length = 258 := by rw [← r2.length]; exact k2'
  have hby : ∀ j, j < 256 → ∃ x : Int, 0 ≤ x ∧ x < 256 ∧ (rp.toL.take 256)[j]? = some (.int .u8 x) ∧ AM.cellAt h pb' (0 + j) = some (.int .u8 x) := by
    intro j hj
    have hg : (rp.toL.take 256)[j]? = some ((rp.toL.take 256)[j]'(by rw [List.length_take]; omega)) := List.getElem?_eq_getElem _
    obtain ⟨x, x0, x1, hxe⟩ := hu _ (List.mem_of_getElem? hg)
    rw [hxe] at hg
    refine ⟨x, x0, x1, hg, ?_⟩
    rw [List.getElem?_take_of_lt hj] at hg
    obtain ⟨v, w1, w2⟩ := q2.get hg
    rw [w2.self_eq rfl] at w1
    rw [cellAt_of q1, Nat.zero_add]; exact w1
  have hw : AM.cellAt h pb' (0 + 256) = some (.int .i64 wi) := by
    rw [R.get_eq] at hwi
    obtain ⟨v, w1, w2⟩ := q2.get hwi
    rw [w2.self_eq rfl] at w1
    rw [cellAt_of q1]; exact w1
  have k1' := Nat.le_of_ble_eq_true k1
  have k5' := Nat.le_of_ble_eq_true k5
  have key : F26_10 (T 0) (T 5) (T 6) (T 7) (T 8) (T 69) h
      (fun v0 v5 v6 v7 v8 v69 h' => h' = upd h qb' (.cells (setL cq 2 (rp.toL.take 256)) E .exact) ∧ v0 = T 0 ∧ v5 = T 5 ∧ v6 = T 6 ∧ v7 = T 7 ∧ v8 = T 8 ∧ v69 = T 69) (fun _ _ _ => False) (fun _ _ _ _ _ _ => False) (fun _ _ _ => False) := by
    rw [e0, e6, e7, e8]
    exact loop26 b1 f1 k1' a1 (Nat.eq_of_beq_eq_true k4) k5' d1 hw (by rw [List.length_take]; omega) hby r1 hcql m1 m2 m3 ⟨rfl, rfl, rfl, rfl, rfl, rfl, rfl⟩
  refine awp_mono _ (fun ex t h' hh => ?_) (F26_10_ok _ _ _ _ T h key).ok
  cases ex with
  | normal =>
    obtain ⟨rfl, r0, r5, r6, r7, r8, r69⟩ := hh
    have hro : RO ρ tq (.cells (.cat (rq.take 2) (rp.take 256)) E .exact) (.cells (setL cq 2 (rp.toL.take 256)) E .exact) := by
      refine .cells ?_
      show All2 (RC ρ) ((rq.take 2).toL ++ (rp.take 256).toL) _
      rw [R.take_toL, R.take_toL]
      have hset : setL cq 2 (rp.toL.take 256) = cq.take 2 ++ rp.toL.take 256 := by
        refine List.ext_getElem? fun k => ?_
        have htl : (rp.toL.take 256).length = 256 := by rw [List.length_take]; omega
        by_cases h2 : k < 2
        · rw [sl_out (.inl h2), List.getElem?_append_left (by rw [List.length_take]; omega), List.getElem?_take_of_lt h2]
        · by_cases h3 : k < 258
          · rw [sl_in (by omega) (by omega) (by omega), List.getElem?_append_right (by rw [List.length_take]; omega), List.length_take]
            congr 1; omega
          · rw [List.getElem?_eq_none (by rw [setL_length]; omega), List.getElem?_eq_none (by rw [List.length_append, List.length_take, htl]; omega)]
      rw [hset]
      refine All2.append (r2.take 2) (all2_self fun v hv => ?_)
      obtain ⟨x, _, _, rfl⟩ := hu v hv
      rfl
    refine hk ρ t _ (Ren.le_refl ρ) ⟨hx.upd gq rfl hqb hro, fun j v hj => ?_, by rw [r69]; exact hmr⟩
    obtain ⟨m1, m2⟩ := keepN_get hj
    have := ht _ _ m2
    simp only [List.mem_cons, List.not_mem_nil, or_false] at m1
    rcases m1 with rfl | rfl | rfl | rfl | rfl
    · rw [r0]; exact this
    · rw [r5]; exact this
    · rw [r6]; exact this
    · rw [r7]; exact this
    · rw [r8]; exact this
  | ret => exact hh.elim
  | exit j =>
    simp only [mkQ, keAdd, ke0] at hh
    cases hj1 : Nat.beq j 1 <;> cases hj0 : Nat.beq j 0 <;> (simp only [hj1, hj0, cond_false, cond_true] at hh <;> exact hh.elim)
  | _ => exact hh.elim
noncomputable def SP : CallF := orS s_pages (SC Tryz.prog (nthN masks))
theorem SP_ok : CallOk Tryz.prog SP := orS_ok s_pages_ok (SC_ok _)
noncomputable def run26 : RunF := kev Tryz.prog SP (nthN masks) 100000
theorem run26_ok : RunOk Tryz.prog run26 := by
  unfold run26
  rw [kev_eq]
  exact ev_ok mixed SP_ok 100000
theorem ok26 : okCode 69 true (bodyOf Tryz.f26.body) = true := by kernel_rfl
noncomputable def s_mem2 : CallF := fun g args eh n => bc (Nat.beq g 26) (xbodyP Tryz.prog (runP run26 fast26 69 1000 path26 (bodyOf Tryz.f26.body)) (nthN masks 26) Tryz.f26 (bodyOf Tryz.f26.body) args eh n) none
theorem s_mem2_ok : CallOk Tryz.prog s_mem2 :=
  xbodyP_ok mixed Tryz.func26 (by kernel_rfl) (runP_ok run26_ok path26 ok26 (by rw [at26]; exact fast26_ok))
noncomputable def SN : CallF := orS s_mem2 SP
theorem SN_ok : CallOk Tryz.prog SN := orS_ok s_mem2_ok SP_ok
noncomputable def CN : CallF := callS Tryz.prog SN (nthN masks)
theorem CN_ok : CallOk Tryz.prog CN := callS_ok SN_ok _
end
end Go.Proofs.YtcohcmlidmaaoaaGreat
