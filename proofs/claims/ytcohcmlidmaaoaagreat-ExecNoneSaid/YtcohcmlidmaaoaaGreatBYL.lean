/-
  A byte, loaded: over the abstract memory.
-/
import Derived.Test.YtcohcmlidmaaoaaGreatBYP
import Derived.Test.YtcohcmlidmaaoaaGreatK1
set_option linter.unusedVariables false
set_option linter.unusedSimpArgs false
set_option maxRecDepth 100000
namespace Go.Proofs.YtcohcmlidmaaoaaGreat
open AM
section
variable {h : H}
theorem eqlPg1 {a : Addr} {K : Value → Prop} : o_bin Tryz.prog .eql 231 (.pointer (some a)) (.pointer none) K = K (.bool false) := by
  have hu : Tryz.prog.underlying 231 = some (.pointer 233) := by kernel_rfl
  unfold o_bin
  have : (selfV (.pointer (some a)) && selfV (.pointer none) && okEq Tryz.prog .eql 231 (.pointer (some a)) (.pointer none)) = false := rfl
  simp only [this, cond_false, hu]
  rfl
theorem and0 {w : Int} : IntKind.i64.wrap (BitVec.ofInt IntKind.i64.bits w &&& BitVec.ofInt IntKind.i64.bits 0).toNat = 0 := by
  have : BitVec.ofInt IntKind.i64.bits 0 = 0#_ := by simp
  rw [this, BitVec.and_zero]; rfl
theorem look_ok {qb qo pm ck a pb po : Nat} {w : Int} {es : List (Value × Value)} {Q : Value → H → Prop} (hc : AM.cellAt h qb (qo + 1) = some (.map (some pm))) (hpm : h pm = some (.map (.int .u32) es ck)) (ha : a < 4294967296)
    (hf : mfind es (.int .u32 (a - a % 256 : Nat)) = some (.pointer (some ⟨pb, po, none⟩))) (hw : AM.cellAt h pb (po + 256) = some (.int .i64 w)) (hq : Q (.tuple #[.pointer (some ⟨pb, po, none⟩), .int .i64 0]) h) :
    AM.Spec Tryz.prog 98 [.pointer (some ⟨qb, qo, none⟩), .int .u32 (a : Nat), .int .i64 1, .int .i64 0] h Q := by
  refine F98_spec _ _ _ _ _ _ ?_
  unfold F98 F98_0
  have e1 : IntKind.u32.wrap 1 = 1 := rfl
  have e2 : (a : Int).tmod 1 = 0 := by simp
  simp only [bin_neq, decide_true, Bool.not_true, guard_ft, pick_false, guard_ff, conv_int, e1, bin_rem (show (1 : Int) ≠ 0 by decide), e2, if_false']
  have d2 : (!decide ((0 : Int) = 0)) = false := rfl
  unfold F98_1 F98_2
  simp only [nil_ptr, field_addr, load_cell hc]
  rw [dcall_base ha]
  unfold o_lookup
  simp only [hpm, hf, cond_false]
  refine ⟨rfl, trivial, ?_⟩
  unfold F98_3
  rw [eqlPg1, if_false']
  simp only [nil_ptr, field_addr, load_cell hw]
  rw [bin_and, and0, bin_neq, d2, if_false']
  exact hq
theorem load_ok {qb qo pm ck a pb po : Nat} {w x : Int} {es : List (Value × Value)} {Q : Value → H → Prop} (hc : AM.cellAt h qb (qo + 1) = some (.map (some pm))) (hpm : h pm = some (.map (.int .u32) es ck)) (ha : a < 4294967296)
    (hf : mfind es (.int .u32 (a - a % 256 : Nat)) = some (.pointer (some ⟨pb, po, none⟩))) (hw : AM.cellAt h pb (po + 256) = some (.int .i64 w)) (hx : AM.cellAt h pb (po + a % 256) = some (.int .u8 x)) (hx0 : 0 ≤ x) (hx1 : x < 256)
    (hq : Q (.tuple #[.int .u32 x, .int .i64 0]) h) :
    AM.Spec Tryz.prog 61 [.pointer (some ⟨qb, qo, none⟩), .int .u32 (a : Nat), .int .i64 1, .int .i64 0] h Q := by
  refine F61_spec _ _ _ _ _ _ ?_
  unfold F61 F61_0
  refine ⟨rfl, look_ok hc hpm ha hf hw ?_⟩
  rw [ex0, ex1, bin_neq]
  have d2 : (!decide ((0 : Int) = 0)) = false := rfl
  rw [d2, if_false']
  unfold F61_1 F61_2 F61_3 F61_4
  rw [conv_int]
  have e1 : IntKind.u32.wrap 1 = 1 := rfl
  rw [e1]
  refine ⟨fun n s h' => h' = h ∧ ((n = 1 ∧ s = (.int .u32 (a : Nat), .pointer (some ⟨pb, po, none⟩), .int .u32 0, .int .u32 1, .int .u32 0)) ∨ (n = 0 ∧ s = (.int .u32 (a : Nat), .pointer (some ⟨pb, po, none⟩), .int .u32 x, .int .u32 1, .int .u32 1))), ⟨1, rfl, .inl ⟨rfl, rfl⟩⟩, ?_⟩
  rintro n s h' ⟨rfl, ⟨rfl, rfl⟩ | ⟨rfl, rfl⟩⟩
  · simp only [F61_5, bin_lss]
    have d3 : decide ((0 : Int) < 1) = true := rfl
    rw [d3, if_true', bin_rem (by decide), rem_eq, bin_add]
    have hm : a % 256 < 256 := Nat.mod_lt _ (by decide)
    have e3 : IntKind.u32.wrap (((a % 256 : Nat) : Int) + 0) = ((a % 256 : Nat) : Int) := by rw [wrapu32 (by omega) (by omega)]; omega
    rw [e3, nil_ptr, field_addr, index_arr (by omega) (by omega)]
    have e4 : po + 0 + (((a % 256 : Nat) : Int)).toNat * 1 = po + a % 256 := by rw [Int.toNat_natCast]; omega
    rw [e4, load_cell hx, conv_int, wrapu32 (by omega) (by omega), bin_mul]
    have e5 : IntKind.u32.wrap (8 * 0) = 0 := rfl
    rw [e5, bin_shl (by decide)]
    have e6 : IntKind.u32.wrap (x * 2 ^ (min (0 : Int).toNat IntKind.u32.bits)) = x := by
      have : min (0 : Int).toNat IntKind.u32.bits = 0 := rfl
      rw [this, Int.pow_zero, Int.mul_one, wrapu32 (by omega) (by omega)]
    rw [e6, bin_or]
    have e7 : IntKind.u32.wrap (BitVec.ofInt IntKind.u32.bits 0 ||| BitVec.ofInt IntKind.u32.bits x).toNat = x := by
      have : BitVec.ofInt IntKind.u32.bits 0 = 0#_ := by simp
      rw [this, BitVec.zero_or, BitVec.toNat_ofInt]
      have hb : IntKind.u32.bits = 32 := rfl
      rw [hb, wrapu32 (by omega) (by omega)]
      omega
    rw [e7, bin_add]
    have e8 : IntKind.u32.wrap (0 + 1) = 1 := rfl
    rw [e8]
    exact ⟨0, by omega, trivial, .inr ⟨rfl, rfl⟩⟩
  · simp only [F61_5, bin_lss]
    have d3 : decide ((1 : Int) < 1) = false := rfl
    rw [d3, if_false']
    exact hq
end
noncomputable section
def u8ok : Value → Bool
  | .int .u8 (.ofNat x) => Nat.blt x 256
  | _ => false
def allU8 (r : R) : Bool := @R.rec (fun _ => Bool) true (fun v => u8ok v) (fun _ v => u8ok v) (fun _ _ ia ib => bc ia ib false) r
theorem allU8_ok : ∀ {r : R}, allU8 r = true → ∀ v ∈ r.toL, ∃ x : Int, 0 ≤ x ∧ x < 256 ∧ v = .int .u8 x := by
  have one : ∀ v, u8ok v = true → ∃ x : Int, 0 ≤ x ∧ x < 256 ∧ v = .int .u8 x := by
    intro v h
    unfold u8ok at h
    split at h
    · rename_i x
      have := Nat.le_of_ble_eq_true h
      exact ⟨Int.ofNat x, by simp, by simp only [Int.ofNat_eq_natCast]; omega, rfl⟩
    · cases h
  intro r
  induction r with
  | nil => intro _ v hv; cases hv
  | one a => intro h v hv; rw [List.mem_singleton.1 hv]; exact one _ h
  | rep k a => intro h v hv; rw [(List.mem_replicate.1 hv).2]; exact one _ h
  | cat a b iha ihb =>
    intro h v hv
    have h' : bc (allU8 a) (allU8 b) false = true := h
    cases ha : allU8 a
    · rw [ha] at h'; cases h'
    · rw [ha, bc_true] at h'
      rcases List.mem_append.1 hv with hv | hv
      · exact iha ha v hv
      · exact ihb h' v hv
end
end Go.Proofs.YtcohcmlidmaaoaaGreat
