/-
  Functions of the program, taken apart over the abstract memory: each piece of the loaded code as a proposition; printed by a program (gen.py).
-/
import Derived.Test.YtcohcmlidmaaoaaGreatK1
import Derived.Test.YtcohcmlidmaaoaaGreatM4
import Derived.KernelRfl
set_option linter.unusedVariables false
set_option linter.unusedSimpArgs false
set_option maxRecDepth 100000
namespace Go.Proofs.YtcohcmlidmaaoaaGreat
open Go.Proofs.YtcohcmlidmaaoaaGreat.AM
/-! #### 16: tincture/exec.Do -/
def runCells (m : Nat) (fuel v0 g : Int) : List Value := [.pointer (some ⟨m, 0, none⟩), .int .i64 fuel, .bool false, .int .u32 v0, .int .u32 g] ++ List.replicate 256 (.int .u32 0) ++ List.replicate 1024 (.int .u8 0) ++ [.bool false, .int .i64 0, .int .u32 0, .int .i64 0, .int .i64 0, .bool false]
theorem build_run {m : Nat} {fuel v0 g : Int} {K : Value → Prop} : o_build Tryz.prog 169 [(0, .pointer (some ⟨m, 0, none⟩)), (1, .int .i64 fuel), (2, .bool false), (3, .int .u32 v0), (4, .int .u32 g)] K = K (.agg (runCells m fuel v0 g).toArray) := by kernel_rfl
theorem A16_size : (regOps (seqL (rest 1 (bodyOf Tryz.f16.body)))).size = 19 := by kernel_rfl
theorem A16_back : backB (regOps (seqL (rest 1 (bodyOf Tryz.f16.body)))) = true := by kernel_rfl
theorem A16_s0 (K : T → H → Prop) (t : T) (h : H) : aStep Tryz.prog (regOps (seqL (rest 1 (bodyOf Tryz.f16.body)))) 0 K t h = (K (tset t 12 (t 0)) h) := by kernel_rfl
theorem A16_d0 : depL (regOps (seqL (rest 1 (bodyOf Tryz.f16.body)))) 0 = [] := by kernel_rfl
theorem A16_s1 (K : T → H → Prop) (t : T) (h : H) : aStep Tryz.prog (regOps (seqL (rest 1 (bodyOf Tryz.f16.body)))) 1 K t h = (K (tset t 13 (t 2)) h) := by kernel_rfl
theorem A16_d1 : depL (regOps (seqL (rest 1 (bodyOf Tryz.f16.body)))) 1 = [] := by kernel_rfl
theorem A16_s2 (K : T → H → Prop) (t : T) (h : H) : aStep Tryz.prog (regOps (seqL (rest 1 (bodyOf Tryz.f16.body)))) 2 K t h = (K (tset t 14 (t 3)) h) := by kernel_rfl
theorem A16_d2 : depL (regOps (seqL (rest 1 (bodyOf Tryz.f16.body)))) 2 = [] := by kernel_rfl
theorem A16_s3 (K : T → H → Prop) (t : T) (h : H) : aStep Tryz.prog (regOps (seqL (rest 1 (bodyOf Tryz.f16.body)))) 3 K t h = (K (tset t 15 (t 1)) h) := by kernel_rfl
theorem A16_d3 : depL (regOps (seqL (rest 1 (bodyOf Tryz.f16.body)))) 3 = [] := by kernel_rfl
theorem A16_s4 (K : T → H → Prop) (t : T) (h : H) : aStep Tryz.prog (regOps (seqL (rest 1 (bodyOf Tryz.f16.body)))) 4 K t h = (o_indexAddr none 5 (t 15) (.int .i64 0) fun v16 => K (tset t 16 v16) h) := by kernel_rfl
theorem A16_d4 : depL (regOps (seqL (rest 1 (bodyOf Tryz.f16.body)))) 4 = [3] := by kernel_rfl
theorem A16_s5 (K : T → H → Prop) (t : T) (h : H) : aStep Tryz.prog (regOps (seqL (rest 1 (bodyOf Tryz.f16.body)))) 5 K t h = (o_fieldAddr 4 (t 16) fun v17 => K (tset t 17 v17) h) := by kernel_rfl
theorem A16_d5 : depL (regOps (seqL (rest 1 (bodyOf Tryz.f16.body)))) 5 = [4] := by kernel_rfl
theorem A16_s6 (K : T → H → Prop) (t : T) (h : H) : aStep Tryz.prog (regOps (seqL (rest 1 (bodyOf Tryz.f16.body)))) 6 K t h = (o_load false 1 (t 17) h fun v18 => K (tset t 18 v18) h) := by kernel_rfl
theorem A16_d6 : depL (regOps (seqL (rest 1 (bodyOf Tryz.f16.body)))) 6 = [5] := by kernel_rfl
theorem A16_s7 (K : T → H → Prop) (t : T) (h : H) : aStep Tryz.prog (regOps (seqL (rest 1 (bodyOf Tryz.f16.body)))) 7 K t h = (K (tset t 19 (t 0)) h) := by kernel_rfl
theorem A16_d7 : depL (regOps (seqL (rest 1 (bodyOf Tryz.f16.body)))) 7 = [] := by kernel_rfl
theorem A16_s8 (K : T → H → Prop) (t : T) (h : H) : aStep Tryz.prog (regOps (seqL (rest 1 (bodyOf Tryz.f16.body)))) 8 K t h = (o_nilCheck (t 19) fun v20 => K (tset t 20 v20) h) := by kernel_rfl
theorem A16_d8 : depL (regOps (seqL (rest 1 (bodyOf Tryz.f16.body)))) 8 = [7] := by kernel_rfl
theorem A16_s9 (K : T → H → Prop) (t : T) (h : H) : aStep Tryz.prog (regOps (seqL (rest 1 (bodyOf Tryz.f16.body)))) 9 K t h = (o_fieldAddr 0 (t 20) fun v21 => K (tset t 21 v21) h) := by kernel_rfl
theorem A16_d9 : depL (regOps (seqL (rest 1 (bodyOf Tryz.f16.body)))) 9 = [8] := by kernel_rfl
theorem A16_s10 (K : T → H → Prop) (t : T) (h : H) : aStep Tryz.prog (regOps (seqL (rest 1 (bodyOf Tryz.f16.body)))) 10 K t h = (o_load false 1 (t 21) h fun v22 => K (tset t 22 v22) h) := by kernel_rfl
theorem A16_d10 : depL (regOps (seqL (rest 1 (bodyOf Tryz.f16.body)))) 10 = [9] := by kernel_rfl
theorem A16_s11 (K : T → H → Prop) (t : T) (h : H) : aStep Tryz.prog (regOps (seqL (rest 1 (bodyOf Tryz.f16.body)))) 11 K t h = (K (tset t 23 (t 1)) h) := by kernel_rfl
theorem A16_d11 : depL (regOps (seqL (rest 1 (bodyOf Tryz.f16.body)))) 11 = [] := by kernel_rfl
theorem A16_s12 (K : T → H → Prop) (t : T) (h : H) : aStep Tryz.prog (regOps (seqL (rest 1 (bodyOf Tryz.f16.body)))) 12 K t h = (o_indexAddr none 5 (t 23) (.int .i64 0) fun v24 => K (tset t 24 v24) h) := by kernel_rfl
theorem A16_d12 : depL (regOps (seqL (rest 1 (bodyOf Tryz.f16.body)))) 12 = [11] := by kernel_rfl
theorem A16_s13 (K : T → H → Prop) (t : T) (h : H) : aStep Tryz.prog (regOps (seqL (rest 1 (bodyOf Tryz.f16.body)))) 13 K t h = (o_fieldAddr 4 (t 24) fun v25 => K (tset t 25 v25) h) := by kernel_rfl
theorem A16_d13 : depL (regOps (seqL (rest 1 (bodyOf Tryz.f16.body)))) 13 = [12] := by kernel_rfl
theorem A16_s14 (K : T → H → Prop) (t : T) (h : H) : aStep Tryz.prog (regOps (seqL (rest 1 (bodyOf Tryz.f16.body)))) 14 K t h = (o_load false 1 (t 25) h fun v26 => K (tset t 26 v26) h) := by kernel_rfl
theorem A16_d14 : depL (regOps (seqL (rest 1 (bodyOf Tryz.f16.body)))) 14 = [13] := by kernel_rfl
theorem A16_s15 (K : T → H → Prop) (t : T) (h : H) : aStep Tryz.prog (regOps (seqL (rest 1 (bodyOf Tryz.f16.body)))) 15 K t h = (o_call Tryz.prog 53 [(t 22), (t 26)] h fun v27 h => K (tset t 27 v27) h) := by kernel_rfl
theorem A16_d15 : depL (regOps (seqL (rest 1 (bodyOf Tryz.f16.body)))) 15 = [10, 14] := by kernel_rfl
theorem A16_s16 (K : T → H → Prop) (t : T) (h : H) : aStep Tryz.prog (regOps (seqL (rest 1 (bodyOf Tryz.f16.body)))) 16 K t h = (o_build Tryz.prog 169 [(0, (t 12)), (1, (t 13)), (2, (t 14)), (3, (t 18)), (4, (t 27))] fun v28 => K (tset t 28 v28) h) := by kernel_rfl
theorem A16_d16 : depL (regOps (seqL (rest 1 (bodyOf Tryz.f16.body)))) 16 = [0, 1, 2, 6, 15] := by kernel_rfl
theorem A16_s17 (K : T → H → Prop) (t : T) (h : H) : aStep Tryz.prog (regOps (seqL (rest 1 (bodyOf Tryz.f16.body)))) 17 K t h = (boxV (t 28) = true ∧ o_new (Value.cells (t 28)).toList 169 .exact h fun b29 h => K (tset t 29 (.pointer (some ⟨b29, 0, none⟩))) h) := by kernel_rfl
theorem A16_d17 : depL (regOps (seqL (rest 1 (bodyOf Tryz.f16.body)))) 17 = [16] := by kernel_rfl
theorem A16_s18 (K : T → H → Prop) (t : T) (h : H) : aStep Tryz.prog (regOps (seqL (rest 1 (bodyOf Tryz.f16.body)))) 18 K t h = (K (tset t 9 (t 29)) h) := by kernel_rfl
theorem A16_d18 : depL (regOps (seqL (rest 1 (bodyOf Tryz.f16.body)))) 18 = [17, 15, 0, 1, 2, 3, 4, 5, 6, 7, 8, 9, 10, 11, 12, 13, 14, 15, 16, 17] := by kernel_rfl
def F16_2 (x0 x1 x2 x3 x8 x48 : Value) (h : H) (Kn : Value → Value → Value → Value → H → Prop) (Kr : Value → Value → H → Prop) : Prop :=
  ∃ (m lb q n c : Nat) (v0 fuel g : Int), x0 = (.pointer (some ⟨m, 0, none⟩)) ∧ x1 = .slice (some ⟨lb, 0, none⟩) n c ∧ 0 < n ∧ x2 = .int .i64 fuel ∧ x3 = .bool false ∧ cellAt h lb 4 = some (.int .u32 v0) ∧ cellAt h m 0 = some (.pointer (some ⟨q, 0, none⟩)) ∧
    (∀ Q : Value → H → Prop, Q (.int .u32 g) h → AM.Spec Tryz.prog 53 [(.pointer (some ⟨q, 0, none⟩)), .int .u32 v0] h Q) ∧ ∀ b, 2 ≤ b → h b = none → Kn x1 x8 (.pointer (some ⟨b, 0, none⟩)) x48 (upd h b (.cells (runCells m fuel v0 g) 169 .exact))
theorem F16_2_ok (Kn Kr) (t : T) (h : H) (H0 : F16_2 (t 0) (t 1) (t 2) (t 3) (t 8) (t 48) h Kn Kr) : Wp Tryz.prog 48 (seqL (rest 1 (bodyOf Tryz.f16.body))) (mkQ (fun t h => Kn (t 1) (t 8) (t 9) (t 48) h) (fun t h => Kr (t 8) (t 48) h) ke0) t h := by
  obtain ⟨m, lb, q, n, c, v0, fuel, g, e0, e1, hn, e2, e3, hc4, hcq, hcall, hk0⟩ := H0
  refine draw_sink1 17 8 (by kernel_rfl) A16_back A16_size (by kernel_rfl) (by kernel_rfl) [(0, (.pointer (some ⟨m, 0, none⟩))), (1, (.slice (some ⟨lb, 0, none⟩) n c)), (2, (.int .i64 fuel)), (3, (.bool false)), (8, (t 8)), (48, (t 48))] [(0, 12), (1, 13), (2, 14), (3, 15), (4, 16), (5, 17), (6, 18), (7, 19), (8, 20), (9, 21), (10, 22), (11, 23), (12, 24), (13, 25), (14, 26), (15, 27), (16, 28)] (fun i => match i with | 0 => (.pointer (some ⟨m, 0, none⟩)) | 1 => (.int .i64 fuel) | 2 => (.bool false) | 3 => (.slice (some ⟨lb, 0, none⟩) n c) | 4 => (.pointer (some ⟨lb, 0, none⟩)) | 5 => (.pointer (some ⟨lb, 4, none⟩)) | 6 => (.int .u32 v0) | 7 => (.pointer (some ⟨m, 0, none⟩)) | 8 => (.pointer (some ⟨m, 0, none⟩)) | 9 => (.pointer (some ⟨m, 0, none⟩)) | 10 => (.pointer (some ⟨q, 0, none⟩)) | 11 => (.slice (some ⟨lb, 0, none⟩) n c) | 12 => (.pointer (some ⟨lb, 0, none⟩)) | 13 => (.pointer (some ⟨lb, 4, none⟩)) | 14 => (.int .u32 v0) | 15 => (.int .u32 g) | 16 => (.agg (runCells m fuel v0 g).toArray) | _ => undef) (by simp [*]) (by kernel_rfl) ?_ ?_
  · intro l t' i hi hd hT K hk
    have p0 : t' 0 = (.pointer (some ⟨m, 0, none⟩)) := hT.p (0, (.pointer (some ⟨m, 0, none⟩))) (by simp)
    have p1 : t' 1 = (.slice (some ⟨lb, 0, none⟩) n c) := hT.p (1, (.slice (some ⟨lb, 0, none⟩) n c)) (by simp)
    have p2 : t' 2 = (.int .i64 fuel) := hT.p (2, (.int .i64 fuel)) (by simp)
    have p3 : t' 3 = (.bool false) := hT.p (3, (.bool false)) (by simp)
    have p8 : t' 8 = (t 8) := hT.p (8, (t 8)) (by simp)
    have p48 : t' 48 = (t 48) := hT.p (48, (t 48)) (by simp)
    match i, hi with
    | 0, _ =>
      simp only [A16_s0, p0, nil_ptr, field_addr, conv_int, Nat.zero_add, Nat.add_zero, Nat.reduceAdd, load_cell hc4, load_cell hcq]
      exact hk _ (hT.set 0 12 rfl)
    | 1, _ =>
      simp only [A16_s1, p2, nil_ptr, field_addr, conv_int, Nat.zero_add, Nat.add_zero, Nat.reduceAdd, load_cell hc4, load_cell hcq]
      exact hk _ (hT.set 1 13 rfl)
    | 2, _ =>
      simp only [A16_s2, p3, nil_ptr, field_addr, conv_int, Nat.zero_add, Nat.add_zero, Nat.reduceAdd, load_cell hc4, load_cell hcq]
      exact hk _ (hT.set 2 14 rfl)
    | 3, _ =>
      simp only [A16_s3, p1, nil_ptr, field_addr, conv_int, Nat.zero_add, Nat.add_zero, Nat.reduceAdd, load_cell hc4, load_cell hcq]
      exact hk _ (hT.set 3 15 rfl)
    | 4, _ =>
      have e15 : t' 15 = (.slice (some ⟨lb, 0, none⟩) n c) := hT.v (3, 15) (by simp) (hd 3 (by rw [A16_d4]; simp))
      rw [A16_s4, e15]
      rw [(show ∀ K : Value → Prop, o_indexAddr none 5 (.slice (some ⟨lb, 0, none⟩) n c) (.int .i64 0) K = K (.pointer (some ⟨lb, 0, none⟩)) from fun K => index_sl (by decide) (by omega))]
      exact hk _ (hT.set 4 16 rfl)
    | 5, _ =>
      have e16 : t' 16 = (.pointer (some ⟨lb, 0, none⟩)) := hT.v (4, 16) (by simp) (hd 4 (by rw [A16_d5]; simp))
      simp only [A16_s5, e16, nil_ptr, field_addr, conv_int, Nat.zero_add, Nat.add_zero, Nat.reduceAdd, load_cell hc4, load_cell hcq]
      exact hk _ (hT.set 5 17 rfl)
    | 6, _ =>
      have e17 : t' 17 = (.pointer (some ⟨lb, 4, none⟩)) := hT.v (5, 17) (by simp) (hd 5 (by rw [A16_d6]; simp))
      simp only [A16_s6, e17, nil_ptr, field_addr, conv_int, Nat.zero_add, Nat.add_zero, Nat.reduceAdd, load_cell hc4, load_cell hcq]
      exact hk _ (hT.set 6 18 rfl)
    | 7, _ =>
      simp only [A16_s7, p0, nil_ptr, field_addr, conv_int, Nat.zero_add, Nat.add_zero, Nat.reduceAdd, load_cell hc4, load_cell hcq]
      exact hk _ (hT.set 7 19 rfl)
    | 8, _ =>
      have e19 : t' 19 = (.pointer (some ⟨m, 0, none⟩)) := hT.v (7, 19) (by simp) (hd 7 (by rw [A16_d8]; simp))
      simp only [A16_s8, e19, nil_ptr, field_addr, conv_int, Nat.zero_add, Nat.add_zero, Nat.reduceAdd, load_cell hc4, load_cell hcq]
      exact hk _ (hT.set 8 20 rfl)
    | 9, _ =>
      have e20 : t' 20 = (.pointer (some ⟨m, 0, none⟩)) := hT.v (8, 20) (by simp) (hd 8 (by rw [A16_d9]; simp))
      simp only [A16_s9, e20, nil_ptr, field_addr, conv_int, Nat.zero_add, Nat.add_zero, Nat.reduceAdd, load_cell hc4, load_cell hcq]
      exact hk _ (hT.set 9 21 rfl)
    | 10, _ =>
      have e21 : t' 21 = (.pointer (some ⟨m, 0, none⟩)) := hT.v (9, 21) (by simp) (hd 9 (by rw [A16_d10]; simp))
      simp only [A16_s10, e21, nil_ptr, field_addr, conv_int, Nat.zero_add, Nat.add_zero, Nat.reduceAdd, load_cell hc4, load_cell hcq]
      exact hk _ (hT.set 10 22 rfl)
    | 11, _ =>
      simp only [A16_s11, p1, nil_ptr, field_addr, conv_int, Nat.zero_add, Nat.add_zero, Nat.reduceAdd, load_cell hc4, load_cell hcq]
      exact hk _ (hT.set 11 23 rfl)
    | 12, _ =>
      have e23 : t' 23 = (.slice (some ⟨lb, 0, none⟩) n c) := hT.v (11, 23) (by simp) (hd 11 (by rw [A16_d12]; simp))
      rw [A16_s12, e23]
      rw [(show ∀ K : Value → Prop, o_indexAddr none 5 (.slice (some ⟨lb, 0, none⟩) n c) (.int .i64 0) K = K (.pointer (some ⟨lb, 0, none⟩)) from fun K => index_sl (by decide) (by omega))]
      exact hk _ (hT.set 12 24 rfl)
    | 13, _ =>
      have e24 : t' 24 = (.pointer (some ⟨lb, 0, none⟩)) := hT.v (12, 24) (by simp) (hd 12 (by rw [A16_d13]; simp))
      simp only [A16_s13, e24, nil_ptr, field_addr, conv_int, Nat.zero_add, Nat.add_zero, Nat.reduceAdd, load_cell hc4, load_cell hcq]
      exact hk _ (hT.set 13 25 rfl)
    | 14, _ =>
      have e25 : t' 25 = (.pointer (some ⟨lb, 4, none⟩)) := hT.v (13, 25) (by simp) (hd 13 (by rw [A16_d14]; simp))
      simp only [A16_s14, e25, nil_ptr, field_addr, conv_int, Nat.zero_add, Nat.add_zero, Nat.reduceAdd, load_cell hc4, load_cell hcq]
      exact hk _ (hT.set 14 26 rfl)
    | 15, _ =>
      have e22 : t' 22 = (.pointer (some ⟨q, 0, none⟩)) := hT.v (10, 22) (by simp) (hd 10 (by rw [A16_d15]; simp))
      have e26 : t' 26 = (.int .u32 v0) := hT.v (14, 26) (by simp) (hd 14 (by rw [A16_d15]; simp))
      rw [A16_s15, e22, e26]
      refine ⟨rfl, hcall _ ?_⟩
      exact hk _ (hT.set 15 27 rfl)
    | 16, _ =>
      have e12 : t' 12 = (.pointer (some ⟨m, 0, none⟩)) := hT.v (0, 12) (by simp) (hd 0 (by rw [A16_d16]; simp))
      have e13 : t' 13 = (.int .i64 fuel) := hT.v (1, 13) (by simp) (hd 1 (by rw [A16_d16]; simp))
      have e14 : t' 14 = (.bool false) := hT.v (2, 14) (by simp) (hd 2 (by rw [A16_d16]; simp))
      have e18 : t' 18 = (.int .u32 v0) := hT.v (6, 18) (by simp) (hd 6 (by rw [A16_d16]; simp))
      have e27 : t' 27 = (.int .u32 g) := hT.v (15, 27) (by simp) (hd 15 (by rw [A16_d16]; simp))
      rw [A16_s16, e12, e13, e14, e18, e27]
      rw [build_run]
      exact hk _ (hT.set 16 28 rfl)
    | k + 17, hk => exact absurd hk (by omega)
  · intro t' hp hv
    rw [A16_s17, hv (16, 28) (by simp)]
    refine ⟨rfl, fun b hb2 hb => ?_⟩
    show aStep Tryz.prog (regOps (seqL (rest 1 (bodyOf Tryz.f16.body)))) 18 _ (tset t' 29 (.pointer (some ⟨b, 0, none⟩))) (upd h b (.cells (runCells m fuel v0 g) 169 .exact))
    rw [A16_s18]
    show Kn (tset (tset t' 29 (.pointer (some ⟨b, 0, none⟩))) 9 (tset t' 29 (.pointer (some ⟨b, 0, none⟩)) 29) 1) (tset (tset t' 29 (.pointer (some ⟨b, 0, none⟩))) 9 (tset t' 29 (.pointer (some ⟨b, 0, none⟩)) 29) 8) (tset (tset t' 29 (.pointer (some ⟨b, 0, none⟩))) 9 (tset t' 29 (.pointer (some ⟨b, 0, none⟩)) 29) 9) (tset (tset t' 29 (.pointer (some ⟨b, 0, none⟩))) 9 (tset t' 29 (.pointer (some ⟨b, 0, none⟩)) 29) 48) _
    have q1 : tset (tset t' 29 (.pointer (some ⟨b, 0, none⟩))) 9 (tset t' 29 (.pointer (some ⟨b, 0, none⟩)) 29) 1 = t' 1 := rfl
    have q8 : tset (tset t' 29 (.pointer (some ⟨b, 0, none⟩))) 9 (tset t' 29 (.pointer (some ⟨b, 0, none⟩)) 29) 8 = t' 8 := rfl
    have q48 : tset (tset t' 29 (.pointer (some ⟨b, 0, none⟩))) 9 (tset t' 29 (.pointer (some ⟨b, 0, none⟩)) 29) 48 = t' 48 := rfl
    have q9 : tset (tset t' 29 (.pointer (some ⟨b, 0, none⟩))) 9 (tset t' 29 (.pointer (some ⟨b, 0, none⟩)) 29) 9 = (.pointer (some ⟨b, 0, none⟩)) := rfl
    rw [q1, q8, q48, q9, hp (1, .slice (some ⟨lb, 0, none⟩) n c) (by simp), hp (8, t 8) (by simp), hp (48, t 48) (by simp), ← e1]
    exact hk0 b hb2 hb
def F16_7 (x8 x9 x30 x31 x32 x48 : Value) (h : H) (Kn : Value → Value → Value → Value → Value → Value → H → Prop) (Kr : Value → Value → H → Prop) (Ke0 : Value → Value → Value → H → Prop) : Prop :=
  o_bin Tryz.prog .lss 3 x32 x31 fun v33 => o_if v33 (o_indexAddr none 5 x30 x32 fun v34 => o_load true 5 v34 h fun v35 => o_new [.int .i64 0, .int .i64 0, .int .i64 0, .int .i64 0, .int .u32 0] 40 .exact h fun b11 h => o_store 5 (.pointer (some ⟨b11, 0, none⟩)) v35 h fun h => o_load true 5 (.pointer (some ⟨b11, 0, none⟩)) h fun v37 => o_call Tryz.prog 54 [x9, v37] h fun v38 h => o_nilCheck x9 fun v40 => o_fieldAddr 1285 v40 fun v41 => o_load false 1 v41 h fun v42 => o_if v42 (Ke0 x8 x9 x48 h) (o_bin Tryz.prog .add 3 x32 (.int .i64 1) fun v43 => Kn x8 x9 x30 x31 v43 x48 h)) (Ke0 x8 x9 x48 h)
theorem F16_7_ok (Kn Kr Ke0) (t : T) (h : H) (H0 : F16_7 (t 8) (t 9) (t 30) (t 31) (t 32) (t 48) h Kn Kr Ke0) : Wp Tryz.prog 48 (lopC (blkC (rest 1 (seqL (seqR (rest 1 (bodyOf Tryz.f16.body))))))) (mkQ (fun t h => Kn (t 8) (t 9) (t 30) (t 31) (t 32) (t 48) h) (fun t h => Kr (t 8) (t 48) h) (keAdd 0 (fun t h => Ke0 (t 8) (t 9) (t 48) h) ke0)) t h :=
  wpEqF H0 (by kernel_rfl)
def F16_6 (x8 x9 x30 x31 x32 x48 : Value) (h : H) (Kn : Value → Value → Value → H → Prop) (Kr : Value → Value → H → Prop) (Ke0 : Value → Value → Value → H → Prop) : Prop :=
  sloop (S := Value × Value × Value × Value × Value × Value) (fun s h K => F16_7 s.1 s.2.1 s.2.2.1 s.2.2.2.1 s.2.2.2.2.1 s.2.2.2.2.2 h (fun y8 y9 y30 y31 y32 y48 h => K (y8, y9, y30, y31, y32, y48) h) Kr Ke0) (x8, x9, x30, x31, x32, x48) h
theorem F16_6_ok (Kn Kr Ke0) (t : T) (h : H) (H0 : F16_6 (t 8) (t 9) (t 30) (t 31) (t 32) (t 48) h Kn Kr Ke0) : Wp Tryz.prog 48 (blkC (rest 1 (seqL (seqR (rest 1 (bodyOf Tryz.f16.body)))))) (mkQ (fun t h => Kn (t 8) (t 9) (t 48) h) (fun t h => Kr (t 8) (t 48) h) (keAdd 0 (fun t h => Ke0 (t 8) (t 9) (t 48) h) ke0)) t h :=
  loop_ok (fun t => (t 8, t 9, t 30, t 31, t 32, t 48)) (by kernel_rfl) (fun t h K H1 => F16_7_ok (fun y8 y9 y30 y31 y32 y48 h => K (y8, y9, y30, y31, y32, y48) h) Kr Ke0 t h H1) H0
def F16_5 (x8 x9 x30 x31 x32 x48 : Value) (h : H) (Kn : Value → Value → Value → H → Prop) (Kr : Value → Value → H → Prop) : Prop :=
  F16_6 x8 x9 x30 x31 x32 x48 h Kn Kr Kn
theorem F16_5_ok (Kn Kr) (t : T) (h : H) (H0 : F16_5 (t 8) (t 9) (t 30) (t 31) (t 32) (t 48) h Kn Kr) : Wp Tryz.prog 48 (rest 1 (seqL (seqR (rest 1 (bodyOf Tryz.f16.body))))) (mkQ (fun t h => Kn (t 8) (t 9) (t 48) h) (fun t h => Kr (t 8) (t 48) h) ke0) t h :=
  block_ok 0 (by kernel_rfl) (by kernel_rfl) (F16_6_ok Kn Kr Kn t h H0)
def F16_4 (x1 x8 x9 x48 : Value) (h : H) (Kn : Value → Value → Value → H → Prop) (Kr : Value → Value → H → Prop) : Prop :=
  o_lenSl x1 fun v31 => F16_5 x8 x9 x1 v31 (.int .i64 0) x48 h Kn Kr
theorem F16_4_ok (Kn Kr) (t : T) (h : H) (H0 : F16_4 (t 1) (t 8) (t 9) (t 48) h Kn Kr) : Wp Tryz.prog 48 (seqL (seqR (rest 1 (bodyOf Tryz.f16.body)))) (mkQ (fun t h => Kn (t 8) (t 9) (t 48) h) (fun t h => Kr (t 8) (t 48) h) ke0) t h :=
  awpTo_okF 1 H0 (by kernel_rfl) (fun t h (H1 : F16_5 (t 8) (t 9) (t 30) (t 31) (t 32) (t 48) h Kn Kr) => F16_5_ok Kn Kr t h H1) (by kernel_rfl)
def F16_8 (x8 x9 x48 : Value) (h : H) (Kn : Value → Value → H → Prop) (Kr : Value → Value → H → Prop) : Prop :=
  o_nilCheck x9 fun v45 => o_fieldAddr 1286 v45 fun v46 => o_load true 5 v46 h fun v47 => o_store 5 x8 v47 h fun h => Kr x8 x48 h
theorem F16_8_ok (Kn Kr) (t : T) (h : H) (H0 : F16_8 (t 8) (t 9) (t 48) h Kn Kr) : Wp Tryz.prog 48 (seqR (seqR (rest 1 (bodyOf Tryz.f16.body)))) (mkQ (fun t h => Kn (t 8) (t 48) h) (fun t h => Kr (t 8) (t 48) h) ke0) t h :=
  wpEqF H0 (by kernel_rfl)
def F16_3 (x1 x8 x9 x48 : Value) (h : H) (Kn : Value → Value → H → Prop) (Kr : Value → Value → H → Prop) : Prop :=
  F16_4 x1 x8 x9 x48 h (fun y8 y9 y48 h => F16_8 y8 y9 y48 h Kn Kr) Kr
theorem F16_3_ok (Kn Kr) (t : T) (h : H) (H0 : F16_3 (t 1) (t 8) (t 9) (t 48) h Kn Kr) : Wp Tryz.prog 48 (seqR (rest 1 (bodyOf Tryz.f16.body))) (mkQ (fun t h => Kn (t 8) (t 48) h) (fun t h => Kr (t 8) (t 48) h) ke0) t h :=
  seq_ok (by kernel_rfl) (fun t h H1 => F16_8_ok Kn Kr t h H1) (F16_4_ok (fun y8 y9 y48 h => F16_8 y8 y9 y48 h Kn Kr) Kr t h H0)
def F16_1 (x0 x1 x2 x3 x8 x48 : Value) (h : H) (Kn : Value → Value → H → Prop) (Kr : Value → Value → H → Prop) : Prop :=
  F16_2 x0 x1 x2 x3 x8 x48 h (fun y1 y8 y9 y48 h => F16_3 y1 y8 y9 y48 h Kn Kr) Kr
theorem F16_1_ok (Kn Kr) (t : T) (h : H) (H0 : F16_1 (t 0) (t 1) (t 2) (t 3) (t 8) (t 48) h Kn Kr) : Wp Tryz.prog 48 (rest 1 (bodyOf Tryz.f16.body)) (mkQ (fun t h => Kn (t 8) (t 48) h) (fun t h => Kr (t 8) (t 48) h) ke0) t h :=
  seq_ok (by kernel_rfl) (fun t h H1 => F16_3_ok Kn Kr t h H1) (F16_2_ok (fun y1 y8 y9 y48 h => F16_3 y1 y8 y9 y48 h Kn Kr) Kr t h H0)
def F16_0 (x0 x1 x2 x3 x48 : Value) (h : H) (Kn : Value → Value → H → Prop) (Kr : Value → Value → H → Prop) : Prop :=
  o_new [.int .i64 0, .int .u32 0, .int .i64 0, .int .i64 0, .bool false] 47 .exact h fun b8 h => F16_1 x0 x1 x2 x3 (.pointer (some ⟨b8, 0, none⟩)) x48 h Kn Kr
theorem F16_0_ok (Kn Kr) (t : T) (h : H) (H0 : F16_0 (t 0) (t 1) (t 2) (t 3) (t 48) h Kn Kr) : Wp Tryz.prog 48 (bodyOf Tryz.f16.body) (mkQ (fun t h => Kn (t 8) (t 48) h) (fun t h => Kr (t 8) (t 48) h) ke0) t h :=
  awpTo_okF 1 H0 (by kernel_rfl) (fun t h (H1 : F16_1 (t 0) (t 1) (t 2) (t 3) (t 8) (t 48) h Kn Kr) => F16_1_ok Kn Kr t h H1) (by kernel_rfl)
def F16 (x0 x1 x2 x3 : Value) (h : H) (Q : Value → H → Prop) : Prop := F16_0 x0 x1 x2 x3 undef h (fun y8 y48 h => o_ret y48 h (fun h => o_load true 5 y8 h fun v => Q v h)) (fun y8 y48 h => o_ret y48 h (fun h => o_load true 5 y8 h fun v => Q v h))
theorem F16_spec (x0 x1 x2 x3 : Value) (h : H) (Q : Value → H → Prop) (H0 : F16 x0 x1 x2 x3 h Q) : AM.Spec Tryz.prog 16 [x0, x1, x2, x3] h Q :=
  spec_wpC mixed (fn := Tryz.f16) Tryz.func16 (c := bodyOf Tryz.f16.body) (a := 8) (ty := 47) (ag := true) (n := 5) (N := 48) (by kernel_rfl) (by kernel_rfl) (by kernel_rfl) (by kernel_rfl) (by kernel_rfl) (by kernel_rfl) (Nat.le_of_ble_eq_true rfl) (F16_0_ok (fun y8 y48 h => o_ret y48 h (fun h => o_load true 5 y8 h fun v => Q v h)) (fun y8 y48 h => o_ret y48 h (fun h => o_load true 5 y8 h fun v => Q v h)) (tinit [x0, x1, x2, x3]) h H0) (by kernel_rfl)
/-! #### 7: tincture/exec.Run -/
def F7_0 (x0 x1 x2 x3 x18 : Value) (h : H) (Kn : Value → Value → H → Prop) (Kr : Value → Value → H → Prop) : Prop :=
  o_new [.int .i64 0, .int .u32 0, .int .i64 0, .int .i64 0, .bool false] 47 .exact h fun b8 h => o_call Tryz.prog 8 [x1] h fun v10 h => o_un Tryz.prog .not v10 fun v11 => o_if v11 (o_build Tryz.prog 47 [(1, (.int .i64 1))] fun v12 => o_store 5 (.pointer (some ⟨b8, 0, none⟩)) v12 h fun h => Kr (.pointer (some ⟨b8, 0, none⟩)) x18 h) (o_call Tryz.prog 16 [x0, x1, x2, x3] h fun v17 h => o_store 5 (.pointer (some ⟨b8, 0, none⟩)) v17 h fun h => Kr (.pointer (some ⟨b8, 0, none⟩)) x18 h)
theorem F7_0_ok (Kn Kr) (t : T) (h : H) (H0 : F7_0 (t 0) (t 1) (t 2) (t 3) (t 18) h Kn Kr) : Wp Tryz.prog 18 (bodyOf Tryz.f7.body) (mkQ (fun t h => Kn (t 8) (t 18) h) (fun t h => Kr (t 8) (t 18) h) ke0) t h :=
  wpEqF H0 (by kernel_rfl)
def F7 (x0 x1 x2 x3 : Value) (h : H) (Q : Value → H → Prop) : Prop := F7_0 x0 x1 x2 x3 undef h (fun y8 y18 h => o_ret y18 h (fun h => o_load true 5 y8 h fun v => Q v h)) (fun y8 y18 h => o_ret y18 h (fun h => o_load true 5 y8 h fun v => Q v h))
theorem F7_spec (x0 x1 x2 x3 : Value) (h : H) (Q : Value → H → Prop) (H0 : F7 x0 x1 x2 x3 h Q) : AM.Spec Tryz.prog 7 [x0, x1, x2, x3] h Q :=
  spec_wpC mixed (fn := Tryz.f7) Tryz.func7 (c := bodyOf Tryz.f7.body) (a := 8) (ty := 47) (ag := true) (n := 5) (N := 18) (by kernel_rfl) (by kernel_rfl) (by kernel_rfl) (by kernel_rfl) (by kernel_rfl) (by kernel_rfl) (Nat.le_of_ble_eq_true rfl) (F7_0_ok (fun y8 y18 h => o_ret y18 h (fun h => o_load true 5 y8 h fun v => Q v h)) (fun y8 y18 h => o_ret y18 h (fun h => o_load true 5 y8 h fun v => Q v h)) (tinit [x0, x1, x2, x3]) h H0) (by kernel_rfl)
/-! #### 3: tincture/tincturelaw20.ExecMarks -/
def F3_2 (x0 x1 x2 x3 x9 x11 : Value) (h : H) (Kn : Value → Value → Value → Value → Value → Value → H → Prop) (Kr : Value → H → Prop) : Prop :=
  o_if x3 (Kn x0 x1 x2 x3 x9 (.int .u32 65536) h) (Kn x0 x1 x2 x3 x9 x11 h)
theorem F3_2_ok (Kn Kr) (t : T) (h : H) (H0 : F3_2 (t 0) (t 1) (t 2) (t 3) (t 9) (t 11) h Kn Kr) : Wp Tryz.prog 136 (seqL (rest 6 (bodyOf Tryz.f3.body))) (mkQ (fun t h => Kn (t 0) (t 1) (t 2) (t 3) (t 9) (t 11) h) (fun t h => Kr (t 8) h) ke0) t h :=
  wpEqF H0 (by kernel_rfl)
def F3_12 (x0 x1 x2 x3 x9 x12 x13 : Value) (h : H) (Kn : Value → Value → Value → Value → Value → Value → Value → H → Prop) (Kr : Value → H → Prop) (Ke1 : Value → Value → Value → Value → Value → Value → Value → H → Prop) (Ke0 : Value → Value → Value → Value → Value → Value → H → Prop) : Prop :=
  o_bin Tryz.prog .gtr 3 x13 (.int .i64 0) fun v61 => o_if v61 (o_bin Tryz.prog .mul 3 (.int .i64 4) x13 fun v64 => o_conv .u32 v64 fun v65 => o_bin Tryz.prog .add 27 (.int .u32 4096) v65 fun v66 => o_build Tryz.prog 40 [(0, (.int .i64 8)), (4, v66)] fun v67 => o_buildSlice Tryz.prog 41 1 [(0, v67)] h fun v68 h => o_append 40 5 40 x12 v68 h fun v69 h => Kn x0 x1 x2 x3 x9 v69 x13 h) (Kn x0 x1 x2 x3 x9 x12 x13 h)
theorem F3_12_ok (Kn Kr Ke1 Ke0) (t : T) (h : H) (H0 : F3_12 (t 0) (t 1) (t 2) (t 3) (t 9) (t 12) (t 13) h Kn Kr Ke1 Ke0) : Wp Tryz.prog 136 (seqL (blkC (seqL (rest 1 (lopC (blkC (rest 1 (seqL (rest 1 (seqR (rest 6 (bodyOf Tryz.f3.body)))))))))))) (mkQ (fun t h => Kn (t 0) (t 1) (t 2) (t 3) (t 9) (t 12) (t 13) h) (fun t h => Kr (t 8) h) (keAdd 1 (fun t h => Ke1 (t 0) (t 1) (t 2) (t 3) (t 9) (t 12) (t 13) h) (keAdd 0 (fun t h => Ke0 (t 0) (t 1) (t 2) (t 3) (t 9) (t 12) h) ke0))) t h :=
  wpEqF H0 (by kernel_rfl)
def F3_14 (x0 x1 x2 x3 x9 x12 x13 : Value) (h : H) (Kn : Value → Value → Value → Value → Value → Value → Value → H → Prop) (Kr : Value → H → Prop) (Ke1 : Value → Value → Value → Value → Value → Value → Value → H → Prop) (Ke0 : Value → Value → Value → Value → Value → Value → H → Prop) : Prop :=
  o_bin Tryz.prog .eql 3 x13 x2 fun v72 => o_if v72 (o_build Tryz.prog 40 [(0, (.int .i64 7)), (2, (.int .i64 1)), (3, (.int .i64 1)), (4, (.int .u32 4))] fun v74 => o_buildSlice Tryz.prog 41 1 [(0, v74)] h fun v75 h => o_append 40 5 40 x12 v75 h fun v76 h => Kn x0 x1 x2 x3 x9 v76 x13 h) (Kn x0 x1 x2 x3 x9 x12 x13 h)
theorem F3_14_ok (Kn Kr Ke1 Ke0) (t : T) (h : H) (H0 : F3_14 (t 0) (t 1) (t 2) (t 3) (t 9) (t 12) (t 13) h Kn Kr Ke1 Ke0) : Wp Tryz.prog 136 (seqL (seqR (blkC (seqL (rest 1 (lopC (blkC (rest 1 (seqL (rest 1 (seqR (rest 6 (bodyOf Tryz.f3.body))))))))))))) (mkQ (fun t h => Kn (t 0) (t 1) (t 2) (t 3) (t 9) (t 12) (t 13) h) (fun t h => Kr (t 8) h) (keAdd 1 (fun t h => Ke1 (t 0) (t 1) (t 2) (t 3) (t 9) (t 12) (t 13) h) (keAdd 0 (fun t h => Ke0 (t 0) (t 1) (t 2) (t 3) (t 9) (t 12) h) ke0))) t h :=
  wpEqF H0 (by kernel_rfl)
def F3_15 (x0 x1 x2 x3 x9 x12 x13 : Value) (h : H) (Kn : Value → Value → Value → Value → Value → Value → Value → H → Prop) (Kr : Value → H → Prop) (Ke1 : Value → Value → Value → Value → Value → Value → Value → H → Prop) (Ke0 : Value → Value → Value → Value → Value → Value → H → Prop) : Prop :=
  o_build Tryz.prog 40 [(0, (.int .i64 9))] fun v78 => o_buildSlice Tryz.prog 41 1 [(0, v78)] h fun v79 h => o_append 40 5 40 x12 v79 h fun v80 h => Kn x0 x1 x2 x3 x9 v80 x13 h
theorem F3_15_ok (Kn Kr Ke1 Ke0) (t : T) (h : H) (H0 : F3_15 (t 0) (t 1) (t 2) (t 3) (t 9) (t 12) (t 13) h Kn Kr Ke1 Ke0) : Wp Tryz.prog 136 (seqR (seqR (blkC (seqL (rest 1 (lopC (blkC (rest 1 (seqL (rest 1 (seqR (rest 6 (bodyOf Tryz.f3.body))))))))))))) (mkQ (fun t h => Kn (t 0) (t 1) (t 2) (t 3) (t 9) (t 12) (t 13) h) (fun t h => Kr (t 8) h) (keAdd 1 (fun t h => Ke1 (t 0) (t 1) (t 2) (t 3) (t 9) (t 12) (t 13) h) (keAdd 0 (fun t h => Ke0 (t 0) (t 1) (t 2) (t 3) (t 9) (t 12) h) ke0))) t h :=
  wpEqF H0 (by kernel_rfl)
def F3_13 (x0 x1 x2 x3 x9 x12 x13 : Value) (h : H) (Kn : Value → Value → Value → Value → Value → Value → Value → H → Prop) (Kr : Value → H → Prop) (Ke1 : Value → Value → Value → Value → Value → Value → Value → H → Prop) (Ke0 : Value → Value → Value → Value → Value → Value → H → Prop) : Prop :=
  F3_14 x0 x1 x2 x3 x9 x12 x13 h (fun y0 y1 y2 y3 y9 y12 y13 h => F3_15 y0 y1 y2 y3 y9 y12 y13 h Kn Kr Ke1 Ke0) Kr Ke1 Ke0
theorem F3_13_ok (Kn Kr Ke1 Ke0) (t : T) (h : H) (H0 : F3_13 (t 0) (t 1) (t 2) (t 3) (t 9) (t 12) (t 13) h Kn Kr Ke1 Ke0) : Wp Tryz.prog 136 (seqR (blkC (seqL (rest 1 (lopC (blkC (rest 1 (seqL (rest 1 (seqR (rest 6 (bodyOf Tryz.f3.body)))))))))))) (mkQ (fun t h => Kn (t 0) (t 1) (t 2) (t 3) (t 9) (t 12) (t 13) h) (fun t h => Kr (t 8) h) (keAdd 1 (fun t h => Ke1 (t 0) (t 1) (t 2) (t 3) (t 9) (t 12) (t 13) h) (keAdd 0 (fun t h => Ke0 (t 0) (t 1) (t 2) (t 3) (t 9) (t 12) h) ke0))) t h :=
  seq_ok (by kernel_rfl) (fun t h H1 => F3_15_ok Kn Kr Ke1 Ke0 t h H1) (F3_14_ok (fun y0 y1 y2 y3 y9 y12 y13 h => F3_15 y0 y1 y2 y3 y9 y12 y13 h Kn Kr Ke1 Ke0) Kr Ke1 Ke0 t h H0)
def F3_11 (x0 x1 x2 x3 x9 x12 x13 : Value) (h : H) (Kn : Value → Value → Value → Value → Value → Value → Value → H → Prop) (Kr : Value → H → Prop) (Ke1 : Value → Value → Value → Value → Value → Value → Value → H → Prop) (Ke0 : Value → Value → Value → Value → Value → Value → H → Prop) : Prop :=
  F3_12 x0 x1 x2 x3 x9 x12 x13 h (fun y0 y1 y2 y3 y9 y12 y13 h => F3_13 y0 y1 y2 y3 y9 y12 y13 h Kn Kr Ke1 Ke0) Kr Ke1 Ke0
theorem F3_11_ok (Kn Kr Ke1 Ke0) (t : T) (h : H) (H0 : F3_11 (t 0) (t 1) (t 2) (t 3) (t 9) (t 12) (t 13) h Kn Kr Ke1 Ke0) : Wp Tryz.prog 136 (blkC (seqL (rest 1 (lopC (blkC (rest 1 (seqL (rest 1 (seqR (rest 6 (bodyOf Tryz.f3.body))))))))))) (mkQ (fun t h => Kn (t 0) (t 1) (t 2) (t 3) (t 9) (t 12) (t 13) h) (fun t h => Kr (t 8) h) (keAdd 1 (fun t h => Ke1 (t 0) (t 1) (t 2) (t 3) (t 9) (t 12) (t 13) h) (keAdd 0 (fun t h => Ke0 (t 0) (t 1) (t 2) (t 3) (t 9) (t 12) h) ke0))) t h :=
  seq_ok (by kernel_rfl) (fun t h H1 => F3_13_ok Kn Kr Ke1 Ke0 t h H1) (F3_12_ok (fun y0 y1 y2 y3 y9 y12 y13 h => F3_13 y0 y1 y2 y3 y9 y12 y13 h Kn Kr Ke1 Ke0) Kr Ke1 Ke0 t h H0)
def F3_10 (x0 x1 x2 x3 x9 x12 x13 : Value) (h : H) (Kn : Value → Value → Value → Value → Value → Value → Value → H → Prop) (Kr : Value → H → Prop) (Ke0 : Value → Value → Value → Value → Value → Value → H → Prop) : Prop :=
  F3_11 x0 x1 x2 x3 x9 x12 x13 h Kn Kr Kn Ke0
theorem F3_10_ok (Kn Kr Ke0) (t : T) (h : H) (H0 : F3_10 (t 0) (t 1) (t 2) (t 3) (t 9) (t 12) (t 13) h Kn Kr Ke0) : Wp Tryz.prog 136 (seqL (rest 1 (lopC (blkC (rest 1 (seqL (rest 1 (seqR (rest 6 (bodyOf Tryz.f3.body)))))))))) (mkQ (fun t h => Kn (t 0) (t 1) (t 2) (t 3) (t 9) (t 12) (t 13) h) (fun t h => Kr (t 8) h) (keAdd 0 (fun t h => Ke0 (t 0) (t 1) (t 2) (t 3) (t 9) (t 12) h) ke0)) t h :=
  block_ok 1 (by kernel_rfl) (by kernel_rfl) (F3_11_ok Kn Kr Kn Ke0 t h H0)
def F3_16 (x0 x1 x2 x3 x9 x12 x13 : Value) (h : H) (Kn : Value → Value → Value → Value → Value → Value → Value → H → Prop) (Kr : Value → H → Prop) (Ke0 : Value → Value → Value → Value → Value → Value → H → Prop) : Prop :=
  o_bin Tryz.prog .add 3 x13 (.int .i64 1) fun v59 => Kn x0 x1 x2 x3 x9 x12 v59 h
theorem F3_16_ok (Kn Kr Ke0) (t : T) (h : H) (H0 : F3_16 (t 0) (t 1) (t 2) (t 3) (t 9) (t 12) (t 13) h Kn Kr Ke0) : Wp Tryz.prog 136 (seqR (rest 1 (lopC (blkC (rest 1 (seqL (rest 1 (seqR (rest 6 (bodyOf Tryz.f3.body)))))))))) (mkQ (fun t h => Kn (t 0) (t 1) (t 2) (t 3) (t 9) (t 12) (t 13) h) (fun t h => Kr (t 8) h) (keAdd 0 (fun t h => Ke0 (t 0) (t 1) (t 2) (t 3) (t 9) (t 12) h) ke0)) t h :=
  wpEqF H0 (by kernel_rfl)
def F3_9 (x0 x1 x2 x3 x9 x12 x13 : Value) (h : H) (Kn : Value → Value → Value → Value → Value → Value → Value → H → Prop) (Kr : Value → H → Prop) (Ke0 : Value → Value → Value → Value → Value → Value → H → Prop) : Prop :=
  F3_10 x0 x1 x2 x3 x9 x12 x13 h (fun y0 y1 y2 y3 y9 y12 y13 h => F3_16 y0 y1 y2 y3 y9 y12 y13 h Kn Kr Ke0) Kr Ke0
theorem F3_9_ok (Kn Kr Ke0) (t : T) (h : H) (H0 : F3_9 (t 0) (t 1) (t 2) (t 3) (t 9) (t 12) (t 13) h Kn Kr Ke0) : Wp Tryz.prog 136 (rest 1 (lopC (blkC (rest 1 (seqL (rest 1 (seqR (rest 6 (bodyOf Tryz.f3.body))))))))) (mkQ (fun t h => Kn (t 0) (t 1) (t 2) (t 3) (t 9) (t 12) (t 13) h) (fun t h => Kr (t 8) h) (keAdd 0 (fun t h => Ke0 (t 0) (t 1) (t 2) (t 3) (t 9) (t 12) h) ke0)) t h :=
  seq_ok (by kernel_rfl) (fun t h H1 => F3_16_ok Kn Kr Ke0 t h H1) (F3_10_ok (fun y0 y1 y2 y3 y9 y12 y13 h => F3_16 y0 y1 y2 y3 y9 y12 y13 h Kn Kr Ke0) Kr Ke0 t h H0)
def F3_8 (x0 x1 x2 x3 x9 x12 x13 : Value) (h : H) (Kn : Value → Value → Value → Value → Value → Value → Value → H → Prop) (Kr : Value → H → Prop) (Ke0 : Value → Value → Value → Value → Value → Value → H → Prop) : Prop :=
  o_bin Tryz.prog .lss 3 x13 x0 fun v57 => o_if v57 (F3_9 x0 x1 x2 x3 x9 x12 x13 h Kn Kr Ke0) (Ke0 x0 x1 x2 x3 x9 x12 h)
theorem F3_8_ok (Kn Kr Ke0) (t : T) (h : H) (H0 : F3_8 (t 0) (t 1) (t 2) (t 3) (t 9) (t 12) (t 13) h Kn Kr Ke0) : Wp Tryz.prog 136 (lopC (blkC (rest 1 (seqL (rest 1 (seqR (rest 6 (bodyOf Tryz.f3.body)))))))) (mkQ (fun t h => Kn (t 0) (t 1) (t 2) (t 3) (t 9) (t 12) (t 13) h) (fun t h => Kr (t 8) h) (keAdd 0 (fun t h => Ke0 (t 0) (t 1) (t 2) (t 3) (t 9) (t 12) h) ke0)) t h :=
  awpTo_okF 1 H0 (by kernel_rfl) (fun t h (H1 : F3_9 (t 0) (t 1) (t 2) (t 3) (t 9) (t 12) (t 13) h Kn Kr Ke0) => F3_9_ok Kn Kr Ke0 t h H1) (by kernel_rfl)
def F3_7 (x0 x1 x2 x3 x9 x12 x13 : Value) (h : H) (Kn : Value → Value → Value → Value → Value → Value → H → Prop) (Kr : Value → H → Prop) (Ke0 : Value → Value → Value → Value → Value → Value → H → Prop) : Prop :=
  sloop (S := Value × Value × Value × Value × Value × Value × Value) (fun s h K => F3_8 s.1 s.2.1 s.2.2.1 s.2.2.2.1 s.2.2.2.2.1 s.2.2.2.2.2.1 s.2.2.2.2.2.2 h (fun y0 y1 y2 y3 y9 y12 y13 h => K (y0, y1, y2, y3, y9, y12, y13) h) Kr Ke0) (x0, x1, x2, x3, x9, x12, x13) h
theorem F3_7_ok (Kn Kr Ke0) (t : T) (h : H) (H0 : F3_7 (t 0) (t 1) (t 2) (t 3) (t 9) (t 12) (t 13) h Kn Kr Ke0) : Wp Tryz.prog 136 (blkC (rest 1 (seqL (rest 1 (seqR (rest 6 (bodyOf Tryz.f3.body))))))) (mkQ (fun t h => Kn (t 0) (t 1) (t 2) (t 3) (t 9) (t 12) h) (fun t h => Kr (t 8) h) (keAdd 0 (fun t h => Ke0 (t 0) (t 1) (t 2) (t 3) (t 9) (t 12) h) ke0)) t h :=
  loop_ok (fun t => (t 0, t 1, t 2, t 3, t 9, t 12, t 13)) (by kernel_rfl) (fun t h K H1 => F3_8_ok (fun y0 y1 y2 y3 y9 y12 y13 h => K (y0, y1, y2, y3, y9, y12, y13) h) Kr Ke0 t h H1) H0
def F3_6 (x0 x1 x2 x3 x9 x12 x13 : Value) (h : H) (Kn : Value → Value → Value → Value → Value → Value → H → Prop) (Kr : Value → H → Prop) : Prop :=
  F3_7 x0 x1 x2 x3 x9 x12 x13 h Kn Kr Kn
theorem F3_6_ok (Kn Kr) (t : T) (h : H) (H0 : F3_6 (t 0) (t 1) (t 2) (t 3) (t 9) (t 12) (t 13) h Kn Kr) : Wp Tryz.prog 136 (rest 1 (seqL (rest 1 (seqR (rest 6 (bodyOf Tryz.f3.body)))))) (mkQ (fun t h => Kn (t 0) (t 1) (t 2) (t 3) (t 9) (t 12) h) (fun t h => Kr (t 8) h) ke0) t h :=
  block_ok 0 (by kernel_rfl) (by kernel_rfl) (F3_7_ok Kn Kr Kn t h H0)
def F3_5 (x0 x1 x2 x3 x9 x12 : Value) (h : H) (Kn : Value → Value → Value → Value → Value → Value → H → Prop) (Kr : Value → H → Prop) : Prop :=
  F3_6 x0 x1 x2 x3 x9 x12 (.int .i64 0) h Kn Kr
theorem F3_5_ok (Kn Kr) (t : T) (h : H) (H0 : F3_5 (t 0) (t 1) (t 2) (t 3) (t 9) (t 12) h Kn Kr) : Wp Tryz.prog 136 (seqL (rest 1 (seqR (rest 6 (bodyOf Tryz.f3.body))))) (mkQ (fun t h => Kn (t 0) (t 1) (t 2) (t 3) (t 9) (t 12) h) (fun t h => Kr (t 8) h) ke0) t h :=
  awpTo_okF 1 H0 (by kernel_rfl) (fun t h (H1 : F3_6 (t 0) (t 1) (t 2) (t 3) (t 9) (t 12) (t 13) h Kn Kr) => F3_6_ok Kn Kr t h H1) (by kernel_rfl)
def F3_19 (x1 x2 x3 x9 x14 x15 : Value) (h : H) (Kn : Value → Value → Value → Value → Value → H → Prop) (Kr : Value → H → Prop) : Prop :=
  o_bin Tryz.prog .lss 2 x1 x15 fun v96 => o_if v96 (Kn x2 x3 x9 x14 x1 h) (Kn x2 x3 x9 x14 x15 h)
theorem F3_19_ok (Kn Kr) (t : T) (h : H) (H0 : F3_19 (t 1) (t 2) (t 3) (t 9) (t 14) (t 15) h Kn Kr) : Wp Tryz.prog 136 (seqL (rest 3 (seqR (rest 1 (seqR (rest 6 (bodyOf Tryz.f3.body))))))) (mkQ (fun t h => Kn (t 2) (t 3) (t 9) (t 14) (t 15) h) (fun t h => Kr (t 8) h) ke0) t h :=
  wpEqF H0 (by kernel_rfl)
def F3_21 (x2 x3 x9 x14 x15 : Value) (h : H) (Kn : Value → Value → Value → H → Prop) (Kr : Value → H → Prop) : Prop :=
  o_bin Tryz.prog .geq 3 x2 (.int .i64 0) fun v99 => o_guard v99 true (fun k4 => o_un Tryz.prog .not x3 fun v102 => k4 v102 h) (fun v102 h => o_pick v99 v102 (.bool false) fun v103 => o_guard v103 true (fun k10 => o_bin Tryz.prog .add 3 x2 (.int .i64 1) fun v106 => o_bin Tryz.prog .lss 2 v106 x15 fun v108 => k10 v108 h) (fun v108 h => o_pick v103 v108 (.bool false) fun v109 => o_if v109 (o_bin Tryz.prog .add 3 x2 (.int .i64 1) fun v111 => Kn x9 x14 v111 h) (Kn x9 x14 x15 h)) h) h
theorem F3_21_ok (Kn Kr) (t : T) (h : H) (H0 : F3_21 (t 2) (t 3) (t 9) (t 14) (t 15) h Kn Kr) : Wp Tryz.prog 136 (seqL (seqR (rest 3 (seqR (rest 1 (seqR (rest 6 (bodyOf Tryz.f3.body)))))))) (mkQ (fun t h => Kn (t 9) (t 14) (t 15) h) (fun t h => Kr (t 8) h) ke0) t h :=
  wpEqF H0 (by kernel_rfl)
def F3_22 (x9 x14 x15 : Value) (h : H) (Kn : Value → H → Prop) (Kr : Value → H → Prop) : Prop :=
  o_load true 5 x14 h fun v112 => o_build Tryz.prog 47 [] fun v113 => o_bin Tryz.prog .eql 47 v112 v113 fun v114 => o_guard v114 true (fun k10 => o_nilCheck x9 fun v117 => o_fieldAddr 2 v117 fun v118 => o_fieldAddr 33 v118 fun v119 => o_load false 1 v119 h fun v120 => o_bin Tryz.prog .eql 2 v120 x15 fun v122 => k10 v122 h) (fun v122 h => o_pick v114 v122 (.bool false) fun v123 => o_guard v123 true (fun k22 => o_nilCheck x9 fun v126 => o_fieldAddr 2 v126 fun v127 => o_fieldAddr 32 v127 fun v128 => o_load false 1 v128 h fun v129 => o_bin Tryz.prog .mul 2 (.int .i64 4) x15 fun v131 => o_conv .u32 v131 fun v132 => o_bin Tryz.prog .add 27 (.int .u32 4096) v132 fun v133 => o_bin Tryz.prog .eql 27 v129 v133 fun v134 => k22 v134 h) (fun v134 h => o_pick v123 v134 (.bool false) fun v135 => Kr v135 h) h) h
theorem F3_22_ok (Kn Kr) (t : T) (h : H) (H0 : F3_22 (t 9) (t 14) (t 15) h Kn Kr) : Wp Tryz.prog 136 (seqR (seqR (rest 3 (seqR (rest 1 (seqR (rest 6 (bodyOf Tryz.f3.body)))))))) (mkQ (fun t h => Kn (t 8) h) (fun t h => Kr (t 8) h) ke0) t h :=
  wpEqF H0 (by kernel_rfl)
def F3_20 (x2 x3 x9 x14 x15 : Value) (h : H) (Kn : Value → H → Prop) (Kr : Value → H → Prop) : Prop :=
  F3_21 x2 x3 x9 x14 x15 h (fun y9 y14 y15 h => F3_22 y9 y14 y15 h Kn Kr) Kr
theorem F3_20_ok (Kn Kr) (t : T) (h : H) (H0 : F3_20 (t 2) (t 3) (t 9) (t 14) (t 15) h Kn Kr) : Wp Tryz.prog 136 (seqR (rest 3 (seqR (rest 1 (seqR (rest 6 (bodyOf Tryz.f3.body))))))) (mkQ (fun t h => Kn (t 8) h) (fun t h => Kr (t 8) h) ke0) t h :=
  seq_ok (by kernel_rfl) (fun t h H1 => F3_22_ok Kn Kr t h H1) (F3_21_ok (fun y9 y14 y15 h => F3_22 y9 y14 y15 h Kn Kr) Kr t h H0)
def F3_18 (x1 x2 x3 x9 x14 x15 : Value) (h : H) (Kn : Value → H → Prop) (Kr : Value → H → Prop) : Prop :=
  F3_19 x1 x2 x3 x9 x14 x15 h (fun y2 y3 y9 y14 y15 h => F3_20 y2 y3 y9 y14 y15 h Kn Kr) Kr
theorem F3_18_ok (Kn Kr) (t : T) (h : H) (H0 : F3_18 (t 1) (t 2) (t 3) (t 9) (t 14) (t 15) h Kn Kr) : Wp Tryz.prog 136 (rest 3 (seqR (rest 1 (seqR (rest 6 (bodyOf Tryz.f3.body)))))) (mkQ (fun t h => Kn (t 8) h) (fun t h => Kr (t 8) h) ke0) t h :=
  seq_ok (by kernel_rfl) (fun t h H1 => F3_20_ok Kn Kr t h H1) (F3_19_ok (fun y2 y3 y9 y14 y15 h => F3_20 y2 y3 y9 y14 y15 h Kn Kr) Kr t h H0)
def F3_17 (x0 x1 x2 x3 x9 x12 : Value) (h : H) (Kn : Value → H → Prop) (Kr : Value → H → Prop) : Prop :=
  o_bin Tryz.prog .mul 3 (.int .i64 4) x0 fun v83 => o_conv .u32 v83 fun v84 => o_bin Tryz.prog .add 27 (.int .u32 4096) v84 fun v85 => o_build Tryz.prog 40 [(0, (.int .i64 12)), (4, v85)] fun v86 => o_buildSlice Tryz.prog 41 1 [(0, v86)] h fun v87 h => o_append 40 5 40 x12 v87 h fun v88 h => o_call Tryz.prog 7 [x9, v88, x1, (.bool false)] h fun v92 h => o_new [.int .i64 0, .int .u32 0, .int .i64 0, .int .i64 0, .bool false] 47 .exact h fun b14 h => o_store 5 (.pointer (some ⟨b14, 0, none⟩)) v92 h fun h => F3_18 x1 x2 x3 x9 (.pointer (some ⟨b14, 0, none⟩)) x0 h Kn Kr
theorem F3_17_ok (Kn Kr) (t : T) (h : H) (H0 : F3_17 (t 0) (t 1) (t 2) (t 3) (t 9) (t 12) h Kn Kr) : Wp Tryz.prog 136 (seqR (rest 1 (seqR (rest 6 (bodyOf Tryz.f3.body))))) (mkQ (fun t h => Kn (t 8) h) (fun t h => Kr (t 8) h) ke0) t h :=
  awpTo_okF 3 H0 (by kernel_rfl) (fun t h (H1 : F3_18 (t 1) (t 2) (t 3) (t 9) (t 14) (t 15) h Kn Kr) => F3_18_ok Kn Kr t h H1) (by kernel_rfl)
def F3_4 (x0 x1 x2 x3 x9 x12 : Value) (h : H) (Kn : Value → H → Prop) (Kr : Value → H → Prop) : Prop :=
  F3_5 x0 x1 x2 x3 x9 x12 h (fun y0 y1 y2 y3 y9 y12 h => F3_17 y0 y1 y2 y3 y9 y12 h Kn Kr) Kr
theorem F3_4_ok (Kn Kr) (t : T) (h : H) (H0 : F3_4 (t 0) (t 1) (t 2) (t 3) (t 9) (t 12) h Kn Kr) : Wp Tryz.prog 136 (rest 1 (seqR (rest 6 (bodyOf Tryz.f3.body)))) (mkQ (fun t h => Kn (t 8) h) (fun t h => Kr (t 8) h) ke0) t h :=
  seq_ok (by kernel_rfl) (fun t h H1 => F3_17_ok Kn Kr t h H1) (F3_5_ok (fun y0 y1 y2 y3 y9 y12 h => F3_17 y0 y1 y2 y3 y9 y12 h Kn Kr) Kr t h H0)
def F3_3 (x0 x1 x2 x3 x9 x11 : Value) (h : H) (Kn : Value → H → Prop) (Kr : Value → H → Prop) : Prop :=
  o_build Tryz.prog 40 [(0, (.int .i64 8)), (4, (.int .u32 4096))] fun v51 => o_build Tryz.prog 40 [(0, (.int .i64 1)), (1, (.int .i64 1)), (4, x11)] fun v53 => o_buildSlice Tryz.prog 41 2 [(0, v51), (1, v53)] h fun v54 h => F3_4 x0 x1 x2 x3 x9 v54 h Kn Kr
theorem F3_3_ok (Kn Kr) (t : T) (h : H) (H0 : F3_3 (t 0) (t 1) (t 2) (t 3) (t 9) (t 11) h Kn Kr) : Wp Tryz.prog 136 (seqR (rest 6 (bodyOf Tryz.f3.body))) (mkQ (fun t h => Kn (t 8) h) (fun t h => Kr (t 8) h) ke0) t h :=
  awpTo_okF 1 H0 (by kernel_rfl) (fun t h (H1 : F3_4 (t 0) (t 1) (t 2) (t 3) (t 9) (t 12) h Kn Kr) => F3_4_ok Kn Kr t h H1) (by kernel_rfl)
def F3_1 (x0 x1 x2 x3 x9 x11 : Value) (h : H) (Kn : Value → H → Prop) (Kr : Value → H → Prop) : Prop :=
  F3_2 x0 x1 x2 x3 x9 x11 h (fun y0 y1 y2 y3 y9 y11 h => F3_3 y0 y1 y2 y3 y9 y11 h Kn Kr) Kr
theorem F3_1_ok (Kn Kr) (t : T) (h : H) (H0 : F3_1 (t 0) (t 1) (t 2) (t 3) (t 9) (t 11) h Kn Kr) : Wp Tryz.prog 136 (rest 6 (bodyOf Tryz.f3.body)) (mkQ (fun t h => Kn (t 8) h) (fun t h => Kr (t 8) h) ke0) t h :=
  seq_ok (by kernel_rfl) (fun t h H1 => F3_3_ok Kn Kr t h H1) (F3_2_ok (fun y0 y1 y2 y3 y9 y11 h => F3_3 y0 y1 y2 y3 y9 y11 h Kn Kr) Kr t h H0)
def F3_0 (x0 x1 x2 x3 : Value) (h : H) (Kn : Value → H → Prop) (Kr : Value → H → Prop) : Prop :=
  o_call Tryz.prog 5 [] h fun v16 h => o_un Tryz.prog .not v16 fun v17 => o_if v17 (Kr (.bool false) h) (o_bin Tryz.prog .lss 3 x0 (.int .i64 1) fun v19 => o_guard v19 false (fun k4 => o_bin Tryz.prog .gtr 3 x0 (.int .i64 20) fun v22 => k4 v22 h) (fun v22 h => o_pick v19 (.bool true) v22 fun v23 => o_guard v23 false (fun k8 => o_bin Tryz.prog .lss 2 x1 (.int .i64 0) fun v26 => k8 v26 h) (fun v26 h => o_pick v23 (.bool true) v26 fun v27 => o_guard v27 false (fun k12 => o_bin Tryz.prog .gtr 2 x1 (.int .i64 30) fun v30 => k12 v30 h) (fun v30 h => o_pick v27 (.bool true) v30 fun v31 => o_guard v31 false (fun k16 => o_bin Tryz.prog .lss 3 x2 (.int .i64 (-1)) fun v34 => k16 v34 h) (fun v34 h => o_pick v31 (.bool true) v34 fun v35 => o_guard v35 false (fun k21 => o_bin Tryz.prog .geq 3 x2 x0 fun v39 => k21 v39 h) (fun v39 h => o_pick v35 (.bool true) v39 fun v40 => o_if v40 (Kr (.bool true) h) (o_buildSlice Tryz.prog 28 1 [(0, (.int .u32 115))] h fun v42 h => o_build Tryz.prog 34 [] fun v43 => o_build Tryz.prog 38 [] fun v44 => o_call Tryz.prog 6 [v42, (.slice none 0 0), (.bool true), v43, v44, (.int .i64 30), (.int .i64 0)] h fun v45 h => o_extract v45 0 fun v46 => o_extract v45 1 fun v47 => o_bin Tryz.prog .eql 23 v46 (.pointer none) fun v49 => o_if v49 (Kr (.bool false) h) (F3_1 x0 x1 x2 x3 v46 (.int .u32 4200) h Kn Kr))) h) h) h) h) h)
theorem F3_0_ok (Kn Kr) (t : T) (h : H) (H0 : F3_0 (t 0) (t 1) (t 2) (t 3) h Kn Kr) : Wp Tryz.prog 136 (bodyOf Tryz.f3.body) (mkQ (fun t h => Kn (t 8) h) (fun t h => Kr (t 8) h) ke0) t h :=
  awpTo_okF 6 H0 (by kernel_rfl) (fun t h (H1 : F3_1 (t 0) (t 1) (t 2) (t 3) (t 9) (t 11) h Kn Kr) => F3_1_ok Kn Kr t h H1) (by kernel_rfl)
def F3 (x0 x1 x2 x3 : Value) (h : H) (Q : Value → H → Prop) : Prop := F3_0 x0 x1 x2 x3 h (fun v h => Q v h) (fun v h => Q v h)
theorem F3_spec (x0 x1 x2 x3 : Value) (h : H) (Q : Value → H → Prop) (H0 : F3 x0 x1 x2 x3 h Q) : AM.Spec Tryz.prog 3 [x0, x1, x2, x3] h Q :=
  spec_wp mixed (fn := Tryz.f3) Tryz.func3 (c := bodyOf Tryz.f3.body) (rs := [8]) (N := 136) (by kernel_rfl) (by kernel_rfl) (by kernel_rfl) (by kernel_rfl) (by kernel_rfl) (Nat.le_of_ble_eq_true rfl) (F3_0_ok (fun v h => Q v h) (fun v h => Q v h) (tinit [x0, x1, x2, x3]) h H0) (by kernel_rfl)
end Go.Proofs.YtcohcmlidmaaoaaGreat
