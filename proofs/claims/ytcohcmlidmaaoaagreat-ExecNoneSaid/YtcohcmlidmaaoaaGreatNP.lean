/-
  Functions of the program, taken apart over the abstract memory: each piece of the loaded code as a proposition; printed by a program (gen.py).
-/
import Derived.Test.YtcohcmlidmaaoaaGreatK1
import Derived.Test.YtcohcmlidmaaoaaGreatM4
import Derived.KernelRfl
set_option linter.unusedVariables false
set_option linter.unusedSimpArgs false
set_option maxRecDepth 100000
namespace Go.Proofs.YtcohcmlidmaaoaaGreat
open Go.Proofs.YtcohcmlidmaaoaaGreat.AM
/-! #### 29: tincture/tincturelaw20.zero -/
def F29_0 (x0 x6 : Value) (h : H) (Kn : KP2) (Kr : KP2) : Prop :=
  boxV x0 = true ∧ o_new (Value.cells x0).toList 51 .exact h fun b1 h => o_new [.int .u32 0, .int .u32 0, .int .u32 0, .int .u32 0, .int .u32 0, .int .u32 0, .int .u32 0, .int .u32 0, .int .u32 0, .int .u32 0, .int .u32 0, .int .u32 0, .int .u32 0, .int .u32 0, .int .u32 0, .int .u32 0, .int .u32 0, .int .u32 0, .int .u32 0, .int .u32 0, .int .u32 0, .int .u32 0, .int .u32 0, .int .u32 0, .int .u32 0, .int .u32 0, .int .u32 0, .int .u32 0, .int .u32 0, .int .u32 0, .int .u32 0, .int .u32 0, .int .u32 0, .int .i64 0] 51 .exact h fun b2 h => o_fieldAddr 0 (.pointer (some ⟨b1, 0, none⟩)) fun v3 => o_indexAddr (some 32) 1 v3 (.int .i64 0) fun v4 => o_store 1 v4 (.int .u32 0) h fun h => o_load true 34 (.pointer (some ⟨b1, 0, none⟩)) h fun v5 => o_store 34 (.pointer (some ⟨b2, 0, none⟩)) v5 h fun h => Kr (.pointer (some ⟨b2, 0, none⟩)) x6 h
theorem F29_0_ok (Kn Kr) (t : T) (h : H) (H0 : F29_0 (t 0) (t 6) h Kn Kr) : Wp Tryz.prog 6 (bodyOf Tryz.f29.body) (mkQ (kq2 Kn 2 6) (kq2 Kr 2 6) ke0) t h :=
  wpEqF H0 (by kernel_rfl)
def F29 (x0 : Value) (h : H) (Q : Value → H → Prop) : Prop := F29_0 x0 undef h (fun y2 y6 h => o_ret y6 h (fun h => o_load true 34 y2 h fun v => Q v h)) (fun y2 y6 h => o_ret y6 h (fun h => o_load true 34 y2 h fun v => Q v h))
theorem F29_spec (x0 : Value) (h : H) (Q : Value → H → Prop) (H0 : F29 x0 h Q) : AM.Spec Tryz.prog 29 [x0] h Q :=
  spec_wpC mixed (fn := Tryz.f29) Tryz.func29 (c := bodyOf Tryz.f29.body) (a := 2) (ty := 51) (ag := true) (n := 34) (N := 6) (by kernel_rfl) (by kernel_rfl) (by kernel_rfl) (by kernel_rfl) (by kernel_rfl) (by kernel_rfl) (Nat.le_of_ble_eq_true rfl) (F29_0_ok (fun y2 y6 h => o_ret y6 h (fun h => o_load true 34 y2 h fun v => Q v h)) (fun y2 y6 h => o_ret y6 h (fun h => o_load true 34 y2 h fun v => Q v h)) (tinit [x0]) h H0) (by kernel_rfl)
def F30_0 (x0 x6 : Value) (h : H) (Kn : KP2) (Kr : KP2) : Prop :=
  boxV x0 = true ∧ o_new (Value.cells x0).toList 56 .exact h fun b1 h => o_new (List.replicate 128 ((.int .u8 0) : Value)) 56 .exact h fun b2 h => o_build Tryz.prog 55 [] fun v3 => o_indexAddr (some 32) 4 (.pointer (some ⟨b1, 0, none⟩)) (.int .i64 0) fun v4 => o_store 4 v4 v3 h fun h => o_load true 128 (.pointer (some ⟨b1, 0, none⟩)) h fun v5 => o_store 128 (.pointer (some ⟨b2, 0, none⟩)) v5 h fun h => Kr (.pointer (some ⟨b2, 0, none⟩)) x6 h
theorem F30_0_ok (Kn Kr) (t : T) (h : H) (H0 : F30_0 (t 0) (t 6) h Kn Kr) : Wp Tryz.prog 6 (bodyOf Tryz.f30.body) (mkQ (kq2 Kn 2 6) (kq2 Kr 2 6) ke0) t h :=
  wpEqF H0 (by kernel_rfl)
def F30 (x0 : Value) (h : H) (Q : Value → H → Prop) : Prop := F30_0 x0 undef h (fun y2 y6 h => o_ret y6 h (fun h => o_load true 128 y2 h fun v => Q v h)) (fun y2 y6 h => o_ret y6 h (fun h => o_load true 128 y2 h fun v => Q v h))
theorem F30_spec (x0 : Value) (h : H) (Q : Value → H → Prop) (H0 : F30 x0 h Q) : AM.Spec Tryz.prog 30 [x0] h Q :=
  spec_wpC mixed (fn := Tryz.f30) Tryz.func30 (c := bodyOf Tryz.f30.body) (a := 2) (ty := 56) (ag := true) (n := 128) (N := 6) (by kernel_rfl) (by kernel_rfl) (by kernel_rfl) (by kernel_rfl) (by kernel_rfl) (by kernel_rfl) (Nat.le_of_ble_eq_true rfl) (F30_0_ok (fun y2 y6 h => o_ret y6 h (fun h => o_load true 128 y2 h fun v => Q v h)) (fun y2 y6 h => o_ret y6 h (fun h => o_load true 128 y2 h fun v => Q v h)) (tinit [x0]) h H0) (by kernel_rfl)
def F31_0 (x0 x4 : Value) (h : H) (Kn : KP2) (Kr : KP2) : Prop :=
  boxV x0 = true ∧ o_new (Value.cells x0).toList 57 .exact h fun b1 h => o_new (List.replicate 128 ((.int .u8 0) : Value)) 56 .exact h fun b2 h => o_load true 128 (.pointer (some ⟨b1, 0, none⟩)) h fun v3 => o_store 128 (.pointer (some ⟨b2, 0, none⟩)) v3 h fun h => Kr (.pointer (some ⟨b2, 0, none⟩)) x4 h
theorem F31_0_ok (Kn Kr) (t : T) (h : H) (H0 : F31_0 (t 0) (t 4) h Kn Kr) : Wp Tryz.prog 4 (bodyOf Tryz.f31.body) (mkQ (kq2 Kn 2 4) (kq2 Kr 2 4) ke0) t h :=
  wpEqF H0 (by kernel_rfl)
def F31 (x0 : Value) (h : H) (Q : Value → H → Prop) : Prop := F31_0 x0 undef h (fun y2 y4 h => o_ret y4 h (fun h => o_load true 128 y2 h fun v => Q v h)) (fun y2 y4 h => o_ret y4 h (fun h => o_load true 128 y2 h fun v => Q v h))
theorem F31_spec (x0 : Value) (h : H) (Q : Value → H → Prop) (H0 : F31 x0 h Q) : AM.Spec Tryz.prog 31 [x0] h Q :=
  spec_wpC mixed (fn := Tryz.f31) Tryz.func31 (c := bodyOf Tryz.f31.body) (a := 2) (ty := 56) (ag := true) (n := 128) (N := 4) (by kernel_rfl) (by kernel_rfl) (by kernel_rfl) (by kernel_rfl) (by kernel_rfl) (by kernel_rfl) (Nat.le_of_ble_eq_true rfl) (F31_0_ok (fun y2 y4 h => o_ret y4 h (fun h => o_load true 128 y2 h fun v => Q v h)) (fun y2 y4 h => o_ret y4 h (fun h => o_load true 128 y2 h fun v => Q v h)) (tinit [x0]) h H0) (by kernel_rfl)
def F7_0 (x0 x1 x2 x3 x18 : Value) (h : H) (Kn : KP2) (Kr : KP2) : Prop :=
  o_new [.int .i64 0, .int .u32 0, .int .i64 0, .int .i64 0, .bool false] 47 .exact h fun b8 h => o_call Tryz.prog 8 [x1] h fun v10 h => o_un Tryz.prog .not v10 fun v11 => o_if v11 (o_build Tryz.prog 47 [(1, (.int .i64 1))] fun v12 => o_store 5 (.pointer (some ⟨b8, 0, none⟩)) v12 h fun h => Kr (.pointer (some ⟨b8, 0, none⟩)) x18 h) (o_call Tryz.prog 16 [x0, x1, x2, x3] h fun v17 h => o_store 5 (.pointer (some ⟨b8, 0, none⟩)) v17 h fun h => Kr (.pointer (some ⟨b8, 0, none⟩)) x18 h)
theorem F7_0_ok (Kn Kr) (t : T) (h : H) (H0 : F7_0 (t 0) (t 1) (t 2) (t 3) (t 18) h Kn Kr) : Wp Tryz.prog 18 (bodyOf Tryz.f7.body) (mkQ (kq2 Kn 8 18) (kq2 Kr 8 18) ke0) t h :=
  wpEqF H0 (by kernel_rfl)
def F7 (x0 x1 x2 x3 : Value) (h : H) (Q : Value → H → Prop) : Prop := F7_0 x0 x1 x2 x3 undef h (fun y8 y18 h => o_ret y18 h (fun h => o_load true 5 y8 h fun v => Q v h)) (fun y8 y18 h => o_ret y18 h (fun h => o_load true 5 y8 h fun v => Q v h))
theorem F7_spec (x0 x1 x2 x3 : Value) (h : H) (Q : Value → H → Prop) (H0 : F7 x0 x1 x2 x3 h Q) : AM.Spec Tryz.prog 7 [x0, x1, x2, x3] h Q :=
  spec_wpC mixed (fn := Tryz.f7) Tryz.func7 (c := bodyOf Tryz.f7.body) (a := 8) (ty := 47) (ag := true) (n := 5) (N := 18) (by kernel_rfl) (by kernel_rfl) (by kernel_rfl) (by kernel_rfl) (by kernel_rfl) (by kernel_rfl) (Nat.le_of_ble_eq_true rfl) (F7_0_ok (fun y8 y18 h => o_ret y18 h (fun h => o_load true 5 y8 h fun v => Q v h)) (fun y8 y18 h => o_ret y18 h (fun h => o_load true 5 y8 h fun v => Q v h)) (tinit [x0, x1, x2, x3]) h H0) (by kernel_rfl)
theorem A4_size : (regOps (seqL (rest 5 (bodyOf Tryz.f4.body)))).size = 10 := by kernel_rfl
theorem A4_back : backB (regOps (seqL (rest 5 (bodyOf Tryz.f4.body)))) = true := by kernel_rfl
theorem A4_s0 (K : T → H → Prop) (t : T) (h : H) : aStep Tryz.prog (regOps (seqL (rest 5 (bodyOf Tryz.f4.body)))) 0 K t h = (K (tset t 38 (t 7)) h) := by kernel_rfl
theorem A4_s1 (K : T → H → Prop) (t : T) (h : H) : aStep Tryz.prog (regOps (seqL (rest 5 (bodyOf Tryz.f4.body)))) 1 K t h = (K (tset t 39 (t 8)) h) := by kernel_rfl
theorem A4_s2 (K : T → H → Prop) (t : T) (h : H) : aStep Tryz.prog (regOps (seqL (rest 5 (bodyOf Tryz.f4.body)))) 2 K t h = (o_load true 34 (t 4) h fun v40 => K (tset t 40 v40) h) := by kernel_rfl
theorem A4_s3 (K : T → H → Prop) (t : T) (h : H) : aStep Tryz.prog (regOps (seqL (rest 5 (bodyOf Tryz.f4.body)))) 3 K t h = (o_load true 34 (t 4) h fun v41 => K (tset t 41 v41) h) := by kernel_rfl
theorem A4_s4 (K : T → H → Prop) (t : T) (h : H) : aStep Tryz.prog (regOps (seqL (rest 5 (bodyOf Tryz.f4.body)))) 4 K t h = (o_nilCheck (t 38) fun v42 => K (tset t 42 v42) h) := by kernel_rfl
theorem A4_d4 : depL (regOps (seqL (rest 5 (bodyOf Tryz.f4.body)))) 4 = [0, 0, 2] := by kernel_rfl
theorem A4_s5 (K : T → H → Prop) (t : T) (h : H) : aStep Tryz.prog (regOps (seqL (rest 5 (bodyOf Tryz.f4.body)))) 5 K t h = (o_fieldAddr 2 (t 42) fun v43 => K (tset t 43 v43) h) := by kernel_rfl
theorem A4_d5 : depL (regOps (seqL (rest 5 (bodyOf Tryz.f4.body)))) 5 = [4, 0, 2] := by kernel_rfl
theorem A4_s6 (K : T → H → Prop) (t : T) (h : H) : aStep Tryz.prog (regOps (seqL (rest 5 (bodyOf Tryz.f4.body)))) 6 K t h = (o_store 34 (t 43) (t 40) h fun h => K t h) := by kernel_rfl
theorem A4_d6 : depL (regOps (seqL (rest 5 (bodyOf Tryz.f4.body)))) 6 = [5, 2, 0, 2] := by kernel_rfl
theorem A4_s7 (K : T → H → Prop) (t : T) (h : H) : aStep Tryz.prog (regOps (seqL (rest 5 (bodyOf Tryz.f4.body)))) 7 K t h = (o_nilCheck (t 39) fun v44 => K (tset t 44 v44) h) := by kernel_rfl
theorem A4_d7 : depL (regOps (seqL (rest 5 (bodyOf Tryz.f4.body)))) 7 = [1, 0, 1, 2, 3, 4, 5, 6] := by kernel_rfl
theorem A4_s8 (K : T → H → Prop) (t : T) (h : H) : aStep Tryz.prog (regOps (seqL (rest 5 (bodyOf Tryz.f4.body)))) 8 K t h = (o_fieldAddr 2 (t 44) fun v45 => K (tset t 45 v45) h) := by kernel_rfl
theorem A4_d8 : depL (regOps (seqL (rest 5 (bodyOf Tryz.f4.body)))) 8 = [7, 0, 1, 2, 3, 4, 5, 6] := by kernel_rfl
theorem A4_s9 (K : T → H → Prop) (t : T) (h : H) : aStep Tryz.prog (regOps (seqL (rest 5 (bodyOf Tryz.f4.body)))) 9 K t h = (o_store 34 (t 45) (t 41) h fun h => K t h) := by kernel_rfl
theorem A4_d9 : depL (regOps (seqL (rest 5 (bodyOf Tryz.f4.body)))) 9 = [8, 3, 6, 0, 1, 2, 3, 4, 5, 6] := by kernel_rfl
def F4_2 (x0 x2 x4 x7 x8 : Value) (h : H) (Kn : KP4) (Kr : Value → H → Prop) : Prop :=
  ∃ (b m w : Nat) (cm cw s : List Value) (E E2 : TypeId), x4 = (.pointer (some ⟨b, 0, none⟩)) ∧ x7 = (.pointer (some ⟨m, 0, none⟩)) ∧ x8 = (.pointer (some ⟨w, 0, none⟩)) ∧ b ≠ m ∧ b ≠ w ∧ m ≠ w ∧ cellsAt h b 0 34 = some s ∧ s.length = 34 ∧ h m = some (.cells cm E .exact) ∧ cm.length = 171 ∧ h w = some (.cells cw E2 .exact) ∧ cw.length = 171 ∧ Kn x0 x2 x7 x8 (upd (upd h m (.cells (setL cm 2 s) E .exact)) w (.cells (setL cw 2 s) E2 .exact))
theorem F4_2_ok (Kn Kr) (t : T) (h : H) (H0 : F4_2 (t 0) (t 2) (t 4) (t 7) (t 8) h Kn Kr) : Wp Tryz.prog 58 (seqL (rest 5 (bodyOf Tryz.f4.body))) (mkQ (kq4 Kn 0 2 7 8) (kq1 Kr 6) ke0) t h := by
  obtain ⟨b, m, w, cm, cw, s, E, E2, e4, e7, e8, nbm, nbw, nmw, hs, hsl, hm, hcm, hw, hcw, hk0⟩ := H0
  generalize e0 : t 0 = x0 at *
  generalize e2 : t 2 = x2 at *
  have hl : ∀ hh, (hh = h ∨ hh = (upd h m (.cells (setL cm 2 s) E .exact)) ∨ hh = (upd (upd h m (.cells (setL cm 2 s) E .exact)) w (.cells (setL cw 2 s) E2 .exact))) → ∀ K : Value → Prop, o_load true 34 (.pointer (some ⟨b, 0, none⟩)) hh K = K (.agg s.toArray) := by
    intro hh hor K
    rcases hor with rfl | rfl | rfl
    · exact load_agg hs
    · rw [load_upd_ne nbm]; exact load_agg hs
    · rw [load_upd_ne nbw, load_upd_ne nbm]; exact load_agg hs
  refine draw_two (h1 := (upd h m (.cells (setL cm 2 s) E .exact))) (h2 := (upd (upd h m (.cells (setL cm 2 s) E .exact)) w (.cells (setL cw 2 s) E2 .exact))) 6 9 (by kernel_rfl) A4_back (by kernel_rfl) (by kernel_rfl) (by kernel_rfl) (by kernel_rfl) [(0, x0), (2, x2), (4, (.pointer (some ⟨b, 0, none⟩))), (7, (.pointer (some ⟨m, 0, none⟩))), (8, (.pointer (some ⟨w, 0, none⟩)))] [(0, 38), (1, 39), (2, 40), (3, 41), (4, 42), (5, 43), (7, 44), (8, 45)] (fun i => match i with | 0 => (.pointer (some ⟨m, 0, none⟩)) | 1 => (.pointer (some ⟨w, 0, none⟩)) | 2 => (.agg s.toArray) | 3 => (.agg s.toArray) | 4 => (.pointer (some ⟨m, 0, none⟩)) | 5 => (.pointer (some ⟨m, 2, none⟩)) | 7 => (.pointer (some ⟨w, 0, none⟩)) | 8 => (.pointer (some ⟨w, 2, none⟩)) | _ => undef) (by simp [*]) (by kernel_rfl) ?_ ?_ ?_ ?_
  · intro l t' i hh hi n1 n2 hor hd hT K hk
    have p0 : t' 0 = x0 := hT.p (0, x0) (by simp)
    have p2 : t' 2 = x2 := hT.p (2, x2) (by simp)
    have p4 : t' 4 = (.pointer (some ⟨b, 0, none⟩)) := hT.p (4, (.pointer (some ⟨b, 0, none⟩))) (by simp)
    have p7 : t' 7 = (.pointer (some ⟨m, 0, none⟩)) := hT.p (7, (.pointer (some ⟨m, 0, none⟩))) (by simp)
    have p8 : t' 8 = (.pointer (some ⟨w, 0, none⟩)) := hT.p (8, (.pointer (some ⟨w, 0, none⟩))) (by simp)
    rw [A4_size] at hi
    match i, hi with
    | 0, _ =>
      simp only [A4_s0, p7, nil_ptr, field_addr, conv_int, Nat.zero_add, Nat.add_zero, Nat.reduceAdd]
      exact hk _ (hT.set 0 38 rfl)
    | 1, _ =>
      simp only [A4_s1, p8, nil_ptr, field_addr, conv_int, Nat.zero_add, Nat.add_zero, Nat.reduceAdd]
      exact hk _ (hT.set 1 39 rfl)
    | 2, _ =>
      rw [A4_s2, p4]
      rw [hl hh hor]
      exact hk _ (hT.set 2 40 rfl)
    | 3, _ =>
      rw [A4_s3, p4]
      rw [hl hh hor]
      exact hk _ (hT.set 3 41 rfl)
    | 4, _ =>
      have e38 : t' 38 = (.pointer (some ⟨m, 0, none⟩)) := hT.v (0, 38) (by simp) (hd 0 (by rw [A4_d4]; simp))
      simp only [A4_s4, e38, nil_ptr, field_addr, conv_int, Nat.zero_add, Nat.add_zero, Nat.reduceAdd]
      exact hk _ (hT.set 4 42 rfl)
    | 5, _ =>
      have e42 : t' 42 = (.pointer (some ⟨m, 0, none⟩)) := hT.v (4, 42) (by simp) (hd 4 (by rw [A4_d5]; simp))
      simp only [A4_s5, e42, nil_ptr, field_addr, conv_int, Nat.zero_add, Nat.add_zero, Nat.reduceAdd]
      exact hk _ (hT.set 5 43 rfl)
    | 7, _ =>
      have e39 : t' 39 = (.pointer (some ⟨w, 0, none⟩)) := hT.v (1, 39) (by simp) (hd 1 (by rw [A4_d7]; simp))
      simp only [A4_s7, e39, nil_ptr, field_addr, conv_int, Nat.zero_add, Nat.add_zero, Nat.reduceAdd]
      exact hk _ (hT.set 7 44 rfl)
    | 8, _ =>
      have e44 : t' 44 = (.pointer (some ⟨w, 0, none⟩)) := hT.v (7, 44) (by simp) (hd 7 (by rw [A4_d8]; simp))
      simp only [A4_s8, e44, nil_ptr, field_addr, conv_int, Nat.zero_add, Nat.add_zero, Nat.reduceAdd]
      exact hk _ (hT.set 8 45 rfl)
    | 6, _ => exact absurd rfl n1
    | 9, _ => exact absurd rfl n2
  · intro l t' hd hT K hk
    have p0 : t' 0 = x0 := hT.p (0, x0) (by simp)
    have p2 : t' 2 = x2 := hT.p (2, x2) (by simp)
    have p4 : t' 4 = (.pointer (some ⟨b, 0, none⟩)) := hT.p (4, (.pointer (some ⟨b, 0, none⟩))) (by simp)
    have p7 : t' 7 = (.pointer (some ⟨m, 0, none⟩)) := hT.p (7, (.pointer (some ⟨m, 0, none⟩))) (by simp)
    have p8 : t' 8 = (.pointer (some ⟨w, 0, none⟩)) := hT.p (8, (.pointer (some ⟨w, 0, none⟩))) (by simp)
    have e40 : t' 40 = (.agg s.toArray) := hT.v (2, 40) (by simp) (hd 2 (by rw [A4_d6]; simp))
    have e43 : t' 43 = (.pointer (some ⟨m, 2, none⟩)) := hT.v (5, 43) (by simp) (hd 5 (by rw [A4_d6]; simp))
    rw [A4_s6, e40, e43]
    rw [store_ok hm (by simp) (by rfl) (by simpa [Value.cells] using hsl) (by omega)]
    simpa [Value.cells] using hk
  · intro l t' hd hT K hk
    have p0 : t' 0 = x0 := hT.p (0, x0) (by simp)
    have p2 : t' 2 = x2 := hT.p (2, x2) (by simp)
    have p4 : t' 4 = (.pointer (some ⟨b, 0, none⟩)) := hT.p (4, (.pointer (some ⟨b, 0, none⟩))) (by simp)
    have p7 : t' 7 = (.pointer (some ⟨m, 0, none⟩)) := hT.p (7, (.pointer (some ⟨m, 0, none⟩))) (by simp)
    have p8 : t' 8 = (.pointer (some ⟨w, 0, none⟩)) := hT.p (8, (.pointer (some ⟨w, 0, none⟩))) (by simp)
    have e41 : t' 41 = (.agg s.toArray) := hT.v (3, 41) (by simp) (hd 3 (by rw [A4_d9]; simp))
    have e45 : t' 45 = (.pointer (some ⟨w, 2, none⟩)) := hT.v (8, 45) (by simp) (hd 8 (by rw [A4_d9]; simp))
    rw [A4_s9, e41, e45]
    rw [store_ok (by rw [upd_ne _ _ nmw.symm]; exact hw) (by simp) (by rfl) (by simpa [Value.cells] using hsl) (by omega)]
    simpa [Value.cells] using hk
  · intro t' hp hv
    show Kn (t' 0) (t' 2) (t' 7) (t' 8) (upd (upd h m (.cells (setL cm 2 s) E .exact)) w (.cells (setL cw 2 s) E2 .exact))
    rw [hp (0, x0) (by simp), hp (2, x2) (by simp), hp (7, (.pointer (some ⟨m, 0, none⟩))) (by simp), hp (8, (.pointer (some ⟨w, 0, none⟩))) (by simp), ← e7, ← e8]
    exact hk0
def F4_3 (x0 x2 x7 x8 : Value) (h : H) (Kn : Value → H → Prop) (Kr : Value → H → Prop) : Prop :=
  o_call Tryz.prog 7 [x7, x0, x2, (.bool false)] h fun v49 h => o_new [.int .i64 0, .int .u32 0, .int .i64 0, .int .i64 0, .bool false] 47 .exact h fun b9 h => o_store 5 (.pointer (some ⟨b9, 0, none⟩)) v49 h fun h => o_load true 5 (.pointer (some ⟨b9, 0, none⟩)) h fun v50 => o_build Tryz.prog 47 [(1, (.int .i64 1))] fun v51 => o_bin Tryz.prog .eql 47 v50 v51 fun v52 => o_guard v52 true (fun k6 => o_call Tryz.prog 9 [x7, x8] h fun v56 h => k6 v56 h) (fun v56 h => o_pick v52 v56 (.bool false) fun v57 => Kr v57 h) h
theorem F4_3_ok (Kn Kr) (t : T) (h : H) (H0 : F4_3 (t 0) (t 2) (t 7) (t 8) h Kn Kr) : Wp Tryz.prog 58 (seqR (rest 5 (bodyOf Tryz.f4.body))) (mkQ (kq1 Kn 6) (kq1 Kr 6) ke0) t h :=
  wpEqF H0 (by kernel_rfl)
def F4_1 (x0 x2 x4 x7 x8 : Value) (h : H) (Kn : Value → H → Prop) (Kr : Value → H → Prop) : Prop :=
  F4_2 x0 x2 x4 x7 x8 h (fun y0 y2 y7 y8 h => F4_3 y0 y2 y7 y8 h Kn Kr) Kr
theorem F4_1_ok (Kn Kr) (t : T) (h : H) (H0 : F4_1 (t 0) (t 2) (t 4) (t 7) (t 8) h Kn Kr) : Wp Tryz.prog 58 (rest 5 (bodyOf Tryz.f4.body)) (mkQ (kq1 Kn 6) (kq1 Kr 6) ke0) t h :=
  seq_ok (by kernel_rfl) (fun t h H1 => F4_3_ok Kn Kr t h H1) (F4_2_ok (fun y0 y2 y7 y8 h => F4_3 y0 y2 y7 y8 h Kn Kr) Kr t h H0)
def F4_0 (x0 x1 x2 : Value) (h : H) (Kn : Value → H → Prop) (Kr : Value → H → Prop) : Prop :=
  boxV x1 = true ∧ o_new (Value.cells x1).toList 51 .exact h fun b4 h => o_call Tryz.prog 5 [] h fun v10 h => o_un Tryz.prog .not v10 fun v11 => o_if v11 (Kr (.bool false) h) (o_lenSl x0 fun v13 => o_bin Tryz.prog .gtr 3 v13 (.int .i64 60) fun v14 => o_guard v14 false (fun k6 => o_fieldAddr 33 (.pointer (some ⟨b4, 0, none⟩)) fun v16 => o_load false 1 v16 h fun v17 => o_bin Tryz.prog .lss 2 v17 (.int .i64 0) fun v18 => k6 v18 h) (fun v18 h => o_pick v14 (.bool true) v18 fun v19 => o_guard v19 false (fun k11 => o_fieldAddr 33 (.pointer (some ⟨b4, 0, none⟩)) fun v21 => o_load false 1 v21 h fun v22 => o_bin Tryz.prog .gtr 2 v22 (.int .i64 1099511627776) fun v23 => k11 v23 h) (fun v23 h => o_pick v19 (.bool true) v23 fun v24 => o_guard v24 false (fun k15 => o_call Tryz.prog 8 [x0] h fun v27 h => k15 v27 h) (fun v27 h => o_pick v24 (.bool true) v27 fun v28 => o_if v28 (Kr (.bool true) h) (o_buildSlice Tryz.prog 28 1 [(0, (.int .u32 115))] h fun v30 h => o_build Tryz.prog 34 [] fun v31 => o_build Tryz.prog 38 [] fun v32 => o_call Tryz.prog 6 [v30, (.slice none 0 0), (.bool true), v31, v32, (.int .i64 60), (.int .i64 5)] h fun v33 h => o_extract v33 0 fun v34 => o_extract v33 1 fun v35 => o_bin Tryz.prog .eql 23 v34 (.pointer none) fun v37 => o_if v37 (Kr (.bool false) h) (F4_1 x0 x2 (.pointer (some ⟨b4, 0, none⟩)) v34 v35 h Kn Kr))) h) h) h)
theorem F4_0_ok (Kn Kr) (t : T) (h : H) (H0 : F4_0 (t 0) (t 1) (t 2) h Kn Kr) : Wp Tryz.prog 58 (bodyOf Tryz.f4.body) (mkQ (kq1 Kn 6) (kq1 Kr 6) ke0) t h :=
  awpTo_okF 5 H0 (by kernel_rfl) (fun t h (H1 : F4_1 (t 0) (t 2) (t 4) (t 7) (t 8) h Kn Kr) => F4_1_ok Kn Kr t h H1) (by kernel_rfl)
def F4 (x0 x1 x2 : Value) (h : H) (Q : Value → H → Prop) : Prop := F4_0 x0 x1 x2 h (fun v h => Q v h) (fun v h => Q v h)
theorem F4_spec (x0 x1 x2 : Value) (h : H) (Q : Value → H → Prop) (H0 : F4 x0 x1 x2 h Q) : AM.Spec Tryz.prog 4 [x0, x1, x2] h Q :=
  spec_wp mixed (fn := Tryz.f4) Tryz.func4 (c := bodyOf Tryz.f4.body) (rs := [6]) (N := 58) (by kernel_rfl) (by kernel_rfl) (by kernel_rfl) (by kernel_rfl) (by kernel_rfl) (Nat.le_of_ble_eq_true rfl) (F4_0_ok (fun v h => Q v h) (fun v h => Q v h) (tinit [x0, x1, x2]) h H0) (by kernel_rfl)
end Go.Proofs.YtcohcmlidmaaoaaGreat
