/-
  The bytes of a page, loaded one by one: over the abstract memory, and for the executor.
-/
import Derived.Test.YtjdhldfeflmneaaGreatBY0
import Derived.Test.YtjdhldfeflmneaaGreatPG2
set_option linter.unusedVariables false
set_option linter.unusedSimpArgs false
set_option maxRecDepth 100000
namespace Go.Proofs.YtjdhldfeflmneaaGreat
open Go.Proofs.YtjdhldfeflmneaaGreat.AM
section
variable {h : H}
theorem eql122 {a : Addr} {K : Value → Prop} : o_bin Tryz.prog .eql 122 (.pointer (some a)) (.pointer none) K = K (.bool false) := by
  have hu : Tryz.prog.underlying 122 = some (.pointer 127) := by kernel_rfl
  unfold o_bin
  have : (selfV (.pointer (some a)) && selfV (.pointer none) && okEq Tryz.prog .eql 122 (.pointer (some a)) (.pointer none)) = false := rfl
  simp only [this, cond_false, hu]
  rfl
theorem and0 {w : Int} : IntKind.i64.wrap (BitVec.ofInt IntKind.i64.bits w &&& BitVec.ofInt IntKind.i64.bits 0).toNat = 0 := by
  have : BitVec.ofInt IntKind.i64.bits 0 = 0#_ := by simp
  rw [this, BitVec.and_zero]; rfl
theorem look_ok {qb qo pm ck a pb po : Nat} {w : Int} {es : List (Value × Value)} {Q : Value → H → Prop} (hc : AM.cellAt h qb (qo + 1) = some (.map (some pm))) (hpm : h pm = some (.map (.int .u32) es ck)) (ha : a < 4294967296)
    (hf : mfind es (.int .u32 (a - a % 256 : Nat)) = some (.pointer (some ⟨pb, po, none⟩))) (hw : AM.cellAt h pb (po + 256) = some (.int .i64 w)) (hq : Q (.tuple #[.pointer (some ⟨pb, po, none⟩), .int .i64 0]) h) :
    AM.Spec Tryz.prog 46 [.pointer (some ⟨qb, qo, none⟩), .int .u32 (a : Nat), .int .i64 1, .int .i64 0] h Q := by
  refine F46_spec _ _ _ _ _ _ ?_
  unfold F46 F46_0
  have e1 : IntKind.u32.wrap 1 = 1 := rfl
  have e2 : (a : Int).tmod 1 = 0 := by simp
  simp only [bin_neq, decide_true, Bool.not_true, guard_ft, pick_false, guard_ff, conv_int, e1, bin_rem (show (1 : Int) ≠ 0 by decide), e2, if_false']
  have d2 : (!decide ((0 : Int) = 0)) = false := rfl
  unfold F46_1 F46_2
  simp only [nil_ptr, field_addr, load_cell hc]
  rw [dcall_base ha]
  unfold o_lookup
  simp only [hpm, hf, cond_false]
  refine ⟨rfl, trivial, ?_⟩
  unfold F46_3
  rw [eql122, if_false']
  simp only [nil_ptr, field_addr, load_cell hw]
  rw [bin_and, and0, bin_neq, d2, if_false']
  exact hq
theorem load_ok {qb qo pm ck a pb po : Nat} {w x : Int} {es : List (Value × Value)} {Q : Value → H → Prop} (hc : AM.cellAt h qb (qo + 1) = some (.map (some pm))) (hpm : h pm = some (.map (.int .u32) es ck)) (ha : a < 4294967296)
    (hf : mfind es (.int .u32 (a - a % 256 : Nat)) = some (.pointer (some ⟨pb, po, none⟩))) (hw : AM.cellAt h pb (po + 256) = some (.int .i64 w)) (hx : AM.cellAt h pb (po + a % 256) = some (.int .u8 x)) (hx0 : 0 ≤ x) (hx1 : x < 256)
    (hq : Q (.tuple #[.int .u32 x, .int .i64 0]) h) :
    AM.Spec Tryz.prog 13 [.pointer (some ⟨qb, qo, none⟩), .int .u32 (a : Nat), .int .i64 1, .int .i64 0] h Q := by
  refine F13_spec _ _ _ _ _ _ ?_
  unfold F13 F13_0
  refine ⟨rfl, look_ok hc hpm ha hf hw ?_⟩
  rw [ex0, ex1, bin_neq]
  have d2 : (!decide ((0 : Int) = 0)) = false := rfl
  rw [d2, if_false']
  unfold F13_1 F13_2 F13_3 F13_4
  rw [conv_int]
  have e1 : IntKind.u32.wrap 1 = 1 := rfl
  rw [e1]
  refine ⟨fun n s h' => h' = h ∧ ((n = 1 ∧ s = (.int .u32 (a : Nat), .pointer (some ⟨pb, po, none⟩), .int .u32 0, .int .u32 1, .int .u32 0)) ∨ (n = 0 ∧ s = (.int .u32 (a : Nat), .pointer (some ⟨pb, po, none⟩), .int .u32 x, .int .u32 1, .int .u32 1))), ⟨1, rfl, .inl ⟨rfl, rfl⟩⟩, ?_⟩
  rintro n s h' ⟨rfl, ⟨rfl, rfl⟩ | ⟨rfl, rfl⟩⟩
  · simp only [F13_5, bin_lss]
    have d3 : decide ((0 : Int) < 1) = true := rfl
    rw [d3, if_true', bin_rem (by decide), rem_eq, bin_add]
    have hm : a % 256 < 256 := Nat.mod_lt _ (by decide)
    have e3 : IntKind.u32.wrap (((a % 256 : Nat) : Int) + 0) = ((a % 256 : Nat) : Int) := by rw [wrapu32 (by omega) (by omega)]; omega
    rw [e3, nil_ptr, field_addr, index_arr (by omega) (by omega)]
    have e4 : po + 0 + (((a % 256 : Nat) : Int)).toNat * 1 = po + a % 256 := by rw [Int.toNat_natCast]; omega
    rw [e4, load_cell hx, conv_int, wrapu32 (by omega) (by omega), bin_mul]
    have e5 : IntKind.u32.wrap (8 * 0) = 0 := rfl
    rw [e5, bin_shl (by decide)]
    have e6 : IntKind.u32.wrap (x * 2 ^ (min (0 : Int).toNat IntKind.u32.bits)) = x := by
      have : min (0 : Int).toNat IntKind.u32.bits = 0 := rfl
      rw [this, Int.pow_zero, Int.mul_one, wrapu32 (by omega) (by omega)]
    rw [e6, bin_or]
    have e7 : IntKind.u32.wrap (BitVec.ofInt IntKind.u32.bits 0 ||| BitVec.ofInt IntKind.u32.bits x).toNat = x := by
      have : BitVec.ofInt IntKind.u32.bits 0 = 0#_ := by simp
      rw [this, BitVec.zero_or, BitVec.toNat_ofInt]
      have hb : IntKind.u32.bits = 32 := rfl
      rw [hb, wrapu32 (by omega) (by omega)]
      omega
    rw [e7, bin_add]
    have e8 : IntKind.u32.wrap (0 + 1) = 1 := rfl
    rw [e8]
    exact ⟨0, by omega, trivial, .inr ⟨rfl, rfl⟩⟩
  · simp only [F13_5, bin_lss]
    have d3 : decide ((1 : Int) < 1) = false := rfl
    rw [d3, if_false']
    exact hq
/-- The cells of a page that are bytes. -/
structure PageAt (h : H) (pb po : Nat) (cs : List Value) : Prop where
  len : cs.length = 256
  at_ : ∀ i, i < 256 → ∃ x : Int, 0 ≤ x ∧ x < 256 ∧ cs[i]? = some (.int .u8 x) ∧ AM.cellAt h pb (po + i) = some (.int .u8 x)
theorem bytes_ok {mb mo qb qo pm ck p pb po : Nat} {w : Int} {es : List (Value × Value)} {cs : List Value} {Q : Value → H → Prop} (hm : AM.cellAt h mb mo = some (.pointer (some ⟨qb, qo, none⟩))) (hc : AM.cellAt h qb (qo + 1) = some (.map (some pm)))
    (hpm : h pm = some (.map (.int .u32) es ck)) (hp : p % 256 = 0) (hp2 : p + 256 ≤ 4294967296) (hf : mfind es (.int .u32 (p : Nat)) = some (.pointer (some ⟨pb, po, none⟩))) (hw : AM.cellAt h pb (po + 256) = some (.int .i64 w)) (hcs : PageAt h pb po cs)
    (hq : ∀ b h', 2 ≤ b → h b = none → Sub h h' → h' b = some (.cells cs 5 .open) → Q (.slice (some ⟨b, 0, none⟩) 256 256) h') :
    AM.Spec Tryz.prog 143 [.pointer (some ⟨mb, mo, none⟩), .int .u32 (p : Nat)] h Q := by
  refine F143_spec _ _ _ _ ?_
  unfold F143 F143_0 F143_1 F143_2 F143_3 F143_4
  refine ⟨fun n s h' => ∃ i v, n = 256 - i ∧ i ≤ 256 ∧ s = (.pointer (some ⟨mb, mo, none⟩), .int .u32 (p : Nat), v, .int .u32 (i : Nat)) ∧ Gr encV 1 5 h h' v (cs.take i) ∧ Sub h h', ⟨256, 0, _, rfl, by omega, rfl, Gr.empty, Sub.refl _⟩, ?_⟩
  rintro n s h' ⟨i, v, rfl, hi, rfl, hg, hs⟩
  simp only [F143_5, bin_lss]
  by_cases hlt : i < 256
  · have d1 : decide ((i : Int) < 256) = true := by simp; omega
    rw [d1, if_true', nil_ptr, field_addr, Nat.add_zero, load_cell (hs.cellAt hm), bin_add]
    have e1 : IntKind.u32.wrap ((p : Int) + (i : Int)) = ((p + i : Nat) : Int) := by rw [wrapu32 (by omega) (by omega)]; omega
    rw [e1]
    obtain ⟨x, x0, x1, x2, x3⟩ := hcs.at_ i hlt
    have ha : p + i - (p + i) % 256 = p := by omega
    have hr : (p + i) % 256 = i := by omega
    refine ⟨rfl, load_ok (hs.cellAt hc) (hs _ _ hpm) (by omega) (by rw [ha]; exact hf) (hs.cellAt hw) (by rw [hr]; exact hs.cellAt x3) x0 x1 ?_⟩
    rw [ex0, ex1, conv_int]
    have e2 : IntKind.u8.wrap x = x := by
      refine wrap_id ?_ ?_ <;> simp [IntKind.min, IntKind.max, IntKind.signed, IntKind.bits] <;> omega
    rw [e2]
    have hlit : litCells Tryz.prog 30 1 [(0, .int .u8 x)] = some ([.int .u8 x], 5) := by kernel_rfl
    unfold o_buildSlice
    rw [hlit]
    intro b3 hb32 hb3
    have hg2 : Gr encV 1 5 h (upd h' b3 (.cells [.int .u8 x] 5 .exact)) v (cs.take i) := by
      refine hg.keep fun b hb' => upd_ne _ _ fun e => ?_
      have := hg.isOpen hb'
      rw [e, hb3] at this; cases this
    have hsl : Sl encV 1 (upd h' b3 (.cells [.int .u8 x] 5 .exact)) (.slice (some ⟨b3, 0, none⟩) 1 1) [.int .u8 x] := Sl.of_block (l := [.int .u8 x]) (encV_len _) (upd_same _ _ _) rfl (by simp)
    have hcl := hcs.len
    refine Gr.append hg2 hsl (by simp) (by omega) (by simp; omega) (by simp; omega) (hs.upd (hs.none hb3)) fun v' h2 g2 s2 f2 n2 => ?_
    rw [bin_add]
    have e3 : IntKind.u32.wrap ((i : Int) + 1) = ((i + 1 : Nat) : Int) := by rw [wrapu32 (by omega) (by omega)]; omega
    rw [e3]
    refine ⟨256 - (i + 1), by omega, i + 1, v', rfl, by omega, rfl, ?_, s2⟩
    rw [List.take_add_one, x2]; exact g2
  · have d1 : decide ((i : Int) < 256) = false := by simp; omega
    rw [d1, if_false']
    have hi2 : i = 256 := by omega
    subst hi2
    have hcl := hcs.len
    rw [List.take_of_length_le (by omega)] at hg
    unfold F143_6
    obtain ⟨_, ⟨hn, _⟩ | ⟨b, hk0, hb2, rfl, hb, hb0⟩⟩ := hg
    · rw [hn] at hcl; cases hcl
    · rw [encV_flat] at hb
      rw [hcl]
      exact hq b h' hb2 hb0 hs hb
end
noncomputable section
def u8ok : Value → Bool
  | .int .u8 (.ofNat x) => Nat.blt x 256
  | _ => false
def allU8 (r : R) : Bool := @R.rec (fun _ => Bool) true (fun v => u8ok v) (fun _ v => u8ok v) (fun _ _ ia ib => bc ia ib false) r
def s_bytes : CallF := fun g args eh n => bc (Nat.beq g 143) (match args with
  | [.c (.pointer (some ⟨mb, mo, none⟩)), .c (.int .u32 (.ofNat p))] => (match cellX eh mb mo with
    | some (.pointer (some ⟨qb, qo, none⟩)) => (match cellX eh qb (qo + 1) with
      | some (.map (some pm)) => (match eh.get pm with
        | some (.map (.int .u32) es _) => (match xfind es (.int .u32 (.ofNat p)) with
          | some (.c (.pointer (some ⟨pb, 0, none⟩))) => (match eh.get pb with
            | some (.cells r _ _) => (match r.get 256 with
              | some (.int .i64 _) => bc (Nat.beq r.size 257) (bc (Nat.beq (Nat.mod p 256) 0) (bc (Nat.ble (p + 256) 4294967296) (bc (allU8 (r.take 256)) (some (.a (.c (.slice (some ⟨n, 0, none⟩) 256 256)), eh.set n (.cells (r.take 256) 5 .open), n + 1)) none) none) none) none
              | _ => none)
            | _ => none)
          | _ => none)
        | _ => none)
      | _ => none)
    | _ => none)
  | _ => none) none
theorem allU8_ok : ∀ {r : R}, allU8 r = true → ∀ v ∈ r.toL, ∃ x : Int, 0 ≤ x ∧ x < 256 ∧ v = .int .u8 x := by
  have one : ∀ v, u8ok v = true → ∃ x : Int, 0 ≤ x ∧ x < 256 ∧ v = .int .u8 x := by
    intro v h
    unfold u8ok at h
    split at h
    · rename_i x
      have := Nat.le_of_ble_eq_true h
      exact ⟨Int.ofNat x, by simp, by simp only [Int.ofNat_eq_natCast]; omega, rfl⟩
    · cases h
  intro r
  induction r with
  | nil => intro _ v hv; cases hv
  | one a => intro h v hv; rw [List.mem_singleton.1 hv]; exact one _ h
  | rep k a => intro h v hv; rw [(List.mem_replicate.1 hv).2]; exact one _ h
  | cat a b iha ihb =>
    intro h v hv
    have h' : bc (allU8 a) (allU8 b) false = true := h
    cases ha : allU8 a
    · rw [ha] at h'; cases h'
    · rw [ha, bc_true] at h'
      rcases List.mem_append.1 hv with hv | hv
      · exact iha ha v hv
      · exact ihb h' v hv
theorem s_bytes_ok : CallOk Tryz.prog s_bytes := by
  intro g args eh n r he F ρ h args' hs ha
  unfold s_bytes at he
  cases hf : Nat.beq g 143
  · rw [hf] at he; cases he
  rw [hf, bc_true] at he
  obtain rfl := Nat.eq_of_beq_eq_true hf
  split at he
  rotate_left
  · cases he
  rename_i mb mo p
  split at he
  rotate_left
  · cases he
  rename_i qb qo hq
  split at he
  rotate_left
  · cases he
  rename_i pm hpm
  split at he
  rotate_left
  · cases he
  rename_i es ck hes
  split at he
  rotate_left
  · cases he
  rename_i pb hpb
  split at he
  rotate_left
  · cases he
  rename_i rp E w hrp
  split at he
  rotate_left
  · cases he
  rename_i wi hwi
  cases h1 : Nat.beq rp.size 257
  · rw [h1] at he; cases he
  cases h2 : Nat.beq (Nat.mod p 256) 0
  · rw [h1, h2] at he; cases he
  cases h3 : Nat.ble (p + 256) 4294967296
  · rw [h1, h2, h3] at he; cases he
  cases h4 : allU8 (rp.take 256)
  · rw [h1, h2, h3, h4] at he; cases he
  rw [h1, h2, h3, h4] at he
  simp only [bc_true] at he
  cases he
  cases ha with
  | cons ha1 t =>
  cases t with
  | cons ha2 t =>
  cases t
  obtain rfl := ha2.toC.self_eq rfl
  obtain ⟨mb', tm, hmb, rfl⟩ := ha1.toC.ptr
  obtain ⟨v1, hv1, hr1⟩ := cellX_of hs hmb hq
  obtain ⟨qb', tq, hqb, rfl⟩ := hr1.ptr
  obtain ⟨v2, hv2, hr2⟩ := cellX_of hs hqb hpm
  obtain ⟨pm', tp, hpmρ, rfl⟩ := hr2.mp
  obtain ⟨es', hpm', hrm⟩ := hs.map hes hpmρ
  obtain ⟨v3, hv3, hr3⟩ := (xfind_rel hrm).1 _ hpb
  obtain ⟨pb', tb, hpbρ, rfl⟩ := hr3.toC.ptr
  obtain ⟨cs, hcs, hrc⟩ := hs.cells hrp hpbρ
  have hsz := Nat.eq_of_beq_eq_true h1
  rw [R.size_eq] at hsz
  have hcl : cs.length = 257 := by rw [← hsz]; exact hrc.length.symm
  have htl : (rp.take 256).toL = rp.toL.take 256 := R.take_toL _ _
  have hu := allU8_ok h4
  rw [htl] at hu
  have hget : ∀ i, i < 256 → ∃ x : Int, 0 ≤ x ∧ x < 256 ∧ rp.toL[i]? = some (.int .u8 x) ∧ cs[i]? = some (.int .u8 x) := by
    intro i hi
    obtain ⟨v, hv⟩ : ∃ v, rp.toL[i]? = some v := ⟨rp.toL[i]'(by omega), List.getElem?_eq_getElem (by omega)⟩
    obtain ⟨x, x0, x1, rfl⟩ := hu v (List.mem_of_getElem? (i := i) (by rw [List.getElem?_take_of_lt hi]; exact hv))
    obtain ⟨v', g1, g2⟩ := hrc.get hv
    rw [g2.self_eq rfl] at g1
    exact ⟨x, x0, x1, hv, g1⟩
  have hw : AM.cellAt h pb' (0 + 256) = some (.int .i64 wi) := by
    rw [R.get_eq] at hwi
    obtain ⟨v', g1, g2⟩ := hrc.get hwi
    rw [g2.self_eq rfl] at g1
    rw [cellAt_of hcs]; exact g1
  have hp2 := Nat.le_of_ble_eq_true h3
  refine bytes_ok (cs := rp.toL.take 256) hv1 hv2 hpm' (Nat.eq_of_beq_eq_true h2) hp2 hv3 hw ⟨by rw [List.length_take]; omega, fun i hi => ?_⟩ fun b h' q1 q2 q3 q4 => ?_
  · obtain ⟨x, x0, x1, x2, x3⟩ := hget i hi
    refine ⟨x, x0, x1, ?_, ?_⟩
    · rw [List.getElem?_take_of_lt hi]; exact x2
    · rw [cellAt_of hcs, Nat.zero_add]; exact x3
  · obtain ⟨ρ', g1, g2, g3⟩ := xgrow hs q3 (o := .cells (rp.take 256) 5 .open) q1 q2 q4 (.cells (by
      rw [htl]
      refine all2_self fun v hv => ?_
      obtain ⟨x, _, _, rfl⟩ := hu v hv
      rfl))
    exact ⟨ρ', g1, g3, .a (.c (.s (.slice g2)))⟩
end
end Go.Proofs.YtjdhldfeflmneaaGreat
