/-
  Pages of a memory, in their order: the functions taken apart; printed by a program (gen.py).
-/
import Derived.Test.YtcohcmlidmaaoaaGreatSO6
import Derived.KernelRfl
set_option linter.unusedVariables false
set_option maxRecDepth 100000
namespace Go.Proofs.YtcohcmlidmaaoaaGreat
open Go.Proofs.YtcohcmlidmaaoaaGreat.AM
/-! #### 163: slices.AppendSeq[[]uint32,uint32] -/
def F163_5 (x2 x5 : Value) (h : H) (Kn : H → Prop) (Kr : H → Prop) : Prop :=
  o_load false 1 x2 h fun v8 => o_buildSlice Tryz.prog 28 1 [(0, x5)] h fun v10 h => o_append 27 1 4 v8 v10 h fun v11 h => o_store 1 x2 v11 h fun h => Kn h
theorem F163_5_ok (Kn Kr) (t : T) (h : H) (H0 : F163_5 (t 2) (t 5) h Kn Kr) : Wp Tryz.prog 13 (rfB (blkC (rest 1 (seqL (rest 1 (bodyOf Tryz.f163.body)))))) (mkQ (kq0 Kn) (kq0 Kr) ke0) t h :=
  wpEqF H0 (by kernel_rfl)
def F163_6 (x2 x7 : Value) (h : H) (Kn : KP2) (Kr : H → Prop) : Prop :=
  Kn x2 x7 h
theorem F163_6_ok (Kn Kr) (t : T) (h : H) (H0 : F163_6 (t 2) (t 7) h Kn Kr) : Wp Tryz.prog 13 (rfA (blkC (rest 1 (seqL (rest 1 (bodyOf Tryz.f163.body)))))) (mkQ (kq2 Kn 2 5) (kq0 Kr) ke0) t h :=
  wpEqF H0 (by kernel_rfl)
def F163_4r (x2 : Value) (L : LObj) (l : Nat) (a0 : Value) (h : H) (K : Value → H → Prop) : Prop :=
  F163_6 x2 a0 h (fun y2 y5 h => h l = some (L .ready none) ∧ F163_5 y2 y5 (upd h l (L .busy none)) (roundK L l K) (roundR L l K)) (fun _ => False)
theorem F163_4r_ok (t : T) (l : Nat) (a0 : Value) (h : H) (K : Value → H → Prop) (H0 : F163_4r (t 2) (rfL (blkC (rest 1 (seqL (rest 1 (bodyOf Tryz.f163.body))))) t 13) l a0 h K) : Round Tryz.prog 13 (blkC (rest 1 (seqL (rest 1 (bodyOf Tryz.f163.body))))) t l [a0] h K :=
  ⟨by kernel_rfl, F163_6_ok (fun y2 y5 h => h l = some (rfL (blkC (rest 1 (seqL (rest 1 (bodyOf Tryz.f163.body))))) t 13 .ready none) ∧ F163_5 y2 y5 (upd h l (rfL (blkC (rest 1 (seqL (rest 1 (bodyOf Tryz.f163.body))))) t 13 .busy none)) (roundK (rfL (blkC (rest 1 (seqL (rest 1 (bodyOf Tryz.f163.body))))) t 13) l K) (roundR (rfL (blkC (rest 1 (seqL (rest 1 (bodyOf Tryz.f163.body))))) t 13) l K)) (fun _ => False) (tround 13 t (rfPs (blkC (rest 1 (seqL (rest 1 (bodyOf Tryz.f163.body)))))) [a0]) h (byEq H0 (by kernel_rfl)) |>.weaken fun t1 h1 hh => ⟨hh.1, F163_5_ok _ _ t1 _ hh.2⟩⟩
def F163_4 (x2 x4 x6 x13 : Value) (h : H) (Kn : KP2) (Kr : KP2) (Ke0 : KP2) : Prop :=
  o_rangeFunc Tryz.prog (fun L l args h K => match args with | [a0] => F163_4r x2 L l a0 h K | _ => False) x6 x13 h (fun m h => Kn x2 m h) (fun m h => Kr x4 m h)
theorem F163_4_ok (Kn Kr Ke0) (t : T) (h : H) (H0 : F163_4 (t 2) (t 4) (t 6) (t 13) h Kn Kr Ke0) : Wp Tryz.prog 13 (blkC (rest 1 (seqL (rest 1 (bodyOf Tryz.f163.body))))) (mkQ (kq2 Kn 2 13) (kq2 Kr 4 13) (keAdd 0 (kq2 Ke0 2 13) ke0)) t h := by
  refine range_ok mixed (R := (fun L l args h K => match args with | [a0] => F163_4r (t 2) L l a0 h K | _ => False)) H0 (by kernel_rfl) (by kernel_rfl) (by kernel_rfl) (by kernel_rfl) (fun l args h K H1 => ?_) (by kernel_rfl)
  rcases args with _ | ⟨a0, _ | ⟨z, zs⟩⟩
  · exact absurd H1 id
  · exact F163_4r_ok t l a0 h K H1
  · exact absurd H1 id
def F163_3 (x2 x4 x6 x13 : Value) (h : H) (Kn : KP2) (Kr : KP2) : Prop :=
  F163_4 x2 x4 x6 x13 h Kn Kr Kn
theorem F163_3_ok (Kn Kr) (t : T) (h : H) (H0 : F163_3 (t 2) (t 4) (t 6) (t 13) h Kn Kr) : Wp Tryz.prog 13 (rest 1 (seqL (rest 1 (bodyOf Tryz.f163.body)))) (mkQ (kq2 Kn 2 13) (kq2 Kr 4 13) ke0) t h :=
  block_ok 0 (by kernel_rfl) (by kernel_rfl) (F163_4_ok Kn Kr Kn t h H0)
def F163_2 (x1 x2 x4 x13 : Value) (h : H) (Kn : KP2) (Kr : KP2) : Prop :=
  F163_3 x2 x4 x1 x13 h Kn Kr
theorem F163_2_ok (Kn Kr) (t : T) (h : H) (H0 : F163_2 (t 1) (t 2) (t 4) (t 13) h Kn Kr) : Wp Tryz.prog 13 (seqL (rest 1 (bodyOf Tryz.f163.body))) (mkQ (kq2 Kn 2 13) (kq2 Kr 4 13) ke0) t h :=
  awpTo_okF 1 H0 (by kernel_rfl) (fun t h (H1 : F163_3 (t 2) (t 4) (t 6) (t 13) h Kn Kr) => F163_3_ok Kn Kr t h H1) (by kernel_rfl)
def F163_7 (x2 x13 : Value) (h : H) (Kn : KP2) (Kr : KP2) : Prop :=
  o_load false 1 x2 h fun v12 => Kr v12 x13 h
theorem F163_7_ok (Kn Kr) (t : T) (h : H) (H0 : F163_7 (t 2) (t 13) h Kn Kr) : Wp Tryz.prog 13 (seqR (rest 1 (bodyOf Tryz.f163.body))) (mkQ (kq2 Kn 4 13) (kq2 Kr 4 13) ke0) t h :=
  wpEqF H0 (by kernel_rfl)
def F163_1 (x1 x2 x4 x13 : Value) (h : H) (Kn : KP2) (Kr : KP2) : Prop :=
  F163_2 x1 x2 x4 x13 h (fun y2 y13 h => F163_7 y2 y13 h Kn Kr) Kr
theorem F163_1_ok (Kn Kr) (t : T) (h : H) (H0 : F163_1 (t 1) (t 2) (t 4) (t 13) h Kn Kr) : Wp Tryz.prog 13 (rest 1 (bodyOf Tryz.f163.body)) (mkQ (kq2 Kn 4 13) (kq2 Kr 4 13) ke0) t h :=
  seq_ok (by kernel_rfl) (fun t h H1 => F163_7_ok Kn Kr t h H1) (F163_2_ok (fun y2 y13 h => F163_7 y2 y13 h Kn Kr) Kr t h H0)
def F163_0 (x0 x1 x13 : Value) (h : H) (Kn : KP2) (Kr : KP2) : Prop :=
  boxV x0 = true ∧ o_new (Value.cells x0).toList 28 .exact h fun b2 h => F163_1 x1 (.pointer (some ⟨b2, 0, none⟩)) (.slice none 0 0) x13 h Kn Kr
theorem F163_0_ok (Kn Kr) (t : T) (h : H) (H0 : F163_0 (t 0) (t 1) (t 13) h Kn Kr) : Wp Tryz.prog 13 (bodyOf Tryz.f163.body) (mkQ (kq2 Kn 4 13) (kq2 Kr 4 13) ke0) t h :=
  awpTo_okF 1 H0 (by kernel_rfl) (fun t h (H1 : F163_1 (t 1) (t 2) (t 4) (t 13) h Kn Kr) => F163_1_ok Kn Kr t h H1) (by kernel_rfl)
def F163 (x0 x1 : Value) (h : H) (Q : Value → H → Prop) : Prop := F163_0 x0 x1 undef h (fun y4 y13 h => o_ret y13 h (fun h => Q y4 h)) (fun y4 y13 h => o_ret y13 h (fun h => Q y4 h))
theorem F163_spec (x0 x1 : Value) (h : H) (Q : Value → H → Prop) (H0 : F163 x0 x1 h Q) : AM.Spec Tryz.prog 163 [x0, x1] h Q :=
  spec_wpm mixed (fn := Tryz.f163) Tryz.func163 (c := bodyOf Tryz.f163.body) (rs := [4]) (N := 13) (by kernel_rfl) (by kernel_rfl) (by kernel_rfl) (by kernel_rfl) (by kernel_rfl) (Nat.le_of_ble_eq_true rfl) (F163_0_ok (fun y4 y13 h => o_ret y13 h (fun h => Q y4 h)) (fun y4 y13 h => o_ret y13 h (fun h => Q y4 h)) (tinit [x0, x1]) h H0) (by kernel_rfl)
def F142_3 (x0 x5 : Value) (h : H) (Kn : KP2) (Kr : H → Prop) (Ke0 : H → Prop) : Prop :=
  o_next x5 h fun v6 h => o_extract v6 0 fun v7 => o_if v7 (o_entry x5 h fun v8 => o_extract v8 0 fun v9 => o_dyn Tryz.prog x0 [v9] h fun v12 h => o_un Tryz.prog .not v12 fun v13 => o_if v13 (Kr h) (Kn x0 x5 h)) (Ke0 h)
theorem F142_3_ok (Kn Kr Ke0) (t : T) (h : H) (H0 : F142_3 (t 0) (t 5) h Kn Kr Ke0) : Wp Tryz.prog 14 (lopC (blkC (rest 1 (bodyOf Tryz.f142.body)))) (mkQ (kq2 Kn 0 5) (kq0 Kr) (keAdd 0 (kq0 Ke0) ke0)) t h :=
  wpEqF H0 (by kernel_rfl)
def F142_2 (x0 x5 : Value) (h : H) (Kn : H → Prop) (Kr : H → Prop) (Ke0 : H → Prop) : Prop :=
  sloop (S := Value × Value) (fun s h K => F142_3 s.1 s.2 h (fun y0 y5 h => K (y0, y5) h) Kr Ke0) (x0, x5) h
theorem F142_2_ok (Kn Kr Ke0) (t : T) (h : H) (H0 : F142_2 (t 0) (t 5) h Kn Kr Ke0) : Wp Tryz.prog 14 (blkC (rest 1 (bodyOf Tryz.f142.body))) (mkQ (kq0 Kn) (kq0 Kr) (keAdd 0 (kq0 Ke0) ke0)) t h :=
  loop_ok (fun t => (t 0, t 5)) (by kernel_rfl) (fun t h K H1 => F142_3_ok (fun y0 y5 h => K (y0, y5) h) Kr Ke0 t h H1) H0
def F142_1 (x0 x5 : Value) (h : H) (Kn : H → Prop) (Kr : H → Prop) : Prop :=
  F142_2 x0 x5 h Kn Kr Kn
theorem F142_1_ok (Kn Kr) (t : T) (h : H) (H0 : F142_1 (t 0) (t 5) h Kn Kr) : Wp Tryz.prog 14 (rest 1 (bodyOf Tryz.f142.body)) (mkQ (kq0 Kn) (kq0 Kr) ke0) t h :=
  block_ok 0 (by kernel_rfl) (by kernel_rfl) (F142_2_ok Kn Kr Kn t h H0)
def F142_0 (x0 x1 : Value) (h : H) (Kn : H → Prop) (Kr : H → Prop) : Prop :=
  o_load false 1 x1 h fun v4 => o_range v4 h fun v5 h => F142_1 x0 v5 h Kn Kr
theorem F142_0_ok (Kn Kr) (t : T) (h : H) (H0 : F142_0 (t 0) (t 1) h Kn Kr) : Wp Tryz.prog 14 (bodyOf Tryz.f142.body) (mkQ (kq0 Kn) (kq0 Kr) ke0) t h :=
  awpTo_okF 1 H0 (by kernel_rfl) (fun t h (H1 : F142_1 (t 0) (t 5) h Kn Kr) => F142_1_ok Kn Kr t h H1) (by kernel_rfl)
def F142 (x0 x1 : Value) (h : H) (Q : Value → H → Prop) : Prop := F142_0 x0 x1 h (fun h => bif [].all boxV then Q (.tuple #[]) h else False) (fun h => bif [].all boxV then Q (.tuple #[]) h else False)
theorem F142_spec (x0 x1 : Value) (h : H) (Q : Value → H → Prop) (H0 : F142 x0 x1 h Q) : AM.Spec Tryz.prog 142 [x0, x1] h Q :=
  spec_wp mixed (fn := Tryz.f142) Tryz.func142 (c := bodyOf Tryz.f142.body) (rs := []) (N := 14) (by kernel_rfl) (by kernel_rfl) (by kernel_rfl) (by kernel_rfl) (by kernel_rfl) (Nat.le_of_ble_eq_true rfl) (F142_0_ok (fun h => bif [].all boxV then Q (.tuple #[]) h else False) (fun h => bif [].all boxV then Q (.tuple #[]) h else False) (tinit [x0, x1]) h H0) (by kernel_rfl)
def F140_0 (x0 : Value) (h : H) (Kn : Value → H → Prop) (Kr : Value → H → Prop) : Prop :=
  o_call Tryz.prog 163 [(.slice none 0 0), x0] h fun v4 h => Kr v4 h
theorem F140_0_ok (Kn Kr) (t : T) (h : H) (H0 : F140_0 (t 0) h Kn Kr) : Wp Tryz.prog 5 (bodyOf Tryz.f140.body) (mkQ (kq1 Kn 2) (kq1 Kr 2) ke0) t h :=
  wpEqF H0 (by kernel_rfl)
def F140 (x0 : Value) (h : H) (Q : Value → H → Prop) : Prop := F140_0 x0 h (fun v h => Q v h) (fun v h => Q v h)
theorem F140_spec (x0 : Value) (h : H) (Q : Value → H → Prop) (H0 : F140 x0 h Q) : AM.Spec Tryz.prog 140 [x0] h Q :=
  spec_wp mixed (fn := Tryz.f140) Tryz.func140 (c := bodyOf Tryz.f140.body) (rs := [2]) (N := 5) (by kernel_rfl) (by kernel_rfl) (by kernel_rfl) (by kernel_rfl) (by kernel_rfl) (Nat.le_of_ble_eq_true rfl) (F140_0_ok (fun v h => Q v h) (fun v h => Q v h) (tinit [x0]) h H0) (by kernel_rfl)
def F96_0 (x0 : Value) (h : H) (Kn : Value → H → Prop) (Kr : Value → H → Prop) : Prop :=
  o_call Tryz.prog 140 [x0] h fun v5 h => o_call Tryz.prog 141 [v5] h fun v7 h => Kr v5 h
theorem F96_0_ok (Kn Kr) (t : T) (h : H) (H0 : F96_0 (t 0) h Kn Kr) : Wp Tryz.prog 9 (bodyOf Tryz.f96.body) (mkQ (kq1 Kn 2) (kq1 Kr 2) ke0) t h :=
  wpEqF H0 (by kernel_rfl)
def F96 (x0 : Value) (h : H) (Q : Value → H → Prop) : Prop := F96_0 x0 h (fun v h => Q v h) (fun v h => Q v h)
theorem F96_spec (x0 : Value) (h : H) (Q : Value → H → Prop) (H0 : F96 x0 h Q) : AM.Spec Tryz.prog 96 [x0] h Q :=
  spec_wp mixed (fn := Tryz.f96) Tryz.func96 (c := bodyOf Tryz.f96.body) (rs := [2]) (N := 9) (by kernel_rfl) (by kernel_rfl) (by kernel_rfl) (by kernel_rfl) (by kernel_rfl) (Nat.le_of_ble_eq_true rfl) (F96_0_ok (fun v h => Q v h) (fun v h => Q v h) (tinit [x0]) h H0) (by kernel_rfl)
def F97_0 (x0 : Value) (h : H) (Kn : Value → H → Prop) (Kr : Value → H → Prop) : Prop :=
  boxV x0 = true ∧ o_new (Value.cells x0).toList 204 .exact h fun b1 h => List.all [] plainC = true ∧ List.all [(.pointer (some ⟨b1, 0, none⟩))] plainC = true ∧ Kr (.func (.func 142) #[] #[(.pointer (some ⟨b1, 0, none⟩))]) h
theorem F97_0_ok (Kn Kr) (t : T) (h : H) (H0 : F97_0 (t 0) h Kn Kr) : Wp Tryz.prog 4 (bodyOf Tryz.f97.body) (mkQ (kq1 Kn 2) (kq1 Kr 2) ke0) t h :=
  wpEqF H0 (by kernel_rfl)
def F97 (x0 : Value) (h : H) (Q : Value → H → Prop) : Prop := F97_0 x0 h (fun v h => Q v h) (fun v h => Q v h)
theorem F97_spec (x0 : Value) (h : H) (Q : Value → H → Prop) (H0 : F97 x0 h Q) : AM.Spec Tryz.prog 97 [x0] h Q :=
  spec_wp mixed (fn := Tryz.f97) Tryz.func97 (c := bodyOf Tryz.f97.body) (rs := [2]) (N := 4) (by kernel_rfl) (by kernel_rfl) (by kernel_rfl) (by kernel_rfl) (by kernel_rfl) (Nat.le_of_ble_eq_true rfl) (F97_0_ok (fun v h => Q v h) (fun v h => Q v h) (tinit [x0]) h H0) (by kernel_rfl)
def F59_0 (x0 : Value) (h : H) (Kn : Value → H → Prop) (Kr : Value → H → Prop) : Prop :=
  o_nilCheck x0 fun v4 => o_fieldAddr 1 v4 fun v5 => o_load false 1 v5 h fun v6 => o_call Tryz.prog 97 [v6] h fun v7 h => o_call Tryz.prog 96 [v7] h fun v8 h => Kr v8 h
theorem F59_0_ok (Kn Kr) (t : T) (h : H) (H0 : F59_0 (t 0) h Kn Kr) : Wp Tryz.prog 9 (bodyOf Tryz.f59.body) (mkQ (kq1 Kn 2) (kq1 Kr 2) ke0) t h :=
  wpEqF H0 (by kernel_rfl)
def F59 (x0 : Value) (h : H) (Q : Value → H → Prop) : Prop := F59_0 x0 h (fun v h => Q v h) (fun v h => Q v h)
theorem F59_spec (x0 : Value) (h : H) (Q : Value → H → Prop) (H0 : F59 x0 h Q) : AM.Spec Tryz.prog 59 [x0] h Q :=
  spec_wp mixed (fn := Tryz.f59) Tryz.func59 (c := bodyOf Tryz.f59.body) (rs := [2]) (N := 9) (by kernel_rfl) (by kernel_rfl) (by kernel_rfl) (by kernel_rfl) (by kernel_rfl) (Nat.le_of_ble_eq_true rfl) (F59_0_ok (fun v h => Q v h) (fun v h => Q v h) (tinit [x0]) h H0) (by kernel_rfl)
end Go.Proofs.YtcohcmlidmaaoaaGreat
