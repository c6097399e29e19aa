/-
  Pages of a memory, in their order: the functions taken apart; printed by a program (gen.py).
-/
import Derived.Test.YtjdhldfeflmneaaGreatSO6
import Derived.KernelRfl
set_option linter.unusedVariables false
set_option maxRecDepth 100000
namespace Go.Proofs.YtjdhldfeflmneaaGreat
open Go.Proofs.YtjdhldfeflmneaaGreat.AM
/-! #### 326: slices.AppendSeq[[]uint32,uint32] -/
def F326_5 (x2 x5 : Value) (h : H) (Kn : H → Prop) (Kr : H → Prop) : Prop :=
  o_load false 1 x2 h fun v8 => o_buildSlice Tryz.prog 28 1 [(0, x5)] h fun v10 h => o_append 27 1 4 v8 v10 h fun v11 h => o_store 1 x2 v11 h fun h => Kn h
theorem F326_5_ok (Kn Kr) (t : T) (h : H) (H0 : F326_5 (t 2) (t 5) h Kn Kr) : Wp Tryz.prog 13 (rfB (blkC (rest 1 (seqL (rest 1 (bodyOf Tryz.f326.body)))))) (mkQ (fun t h => Kn  h) (fun t h => Kr  h) ke0) t h :=
  wpEqF H0 (by kernel_rfl)
def F326_6 (x2 x7 : Value) (h : H) (Kn : Value → Value → H → Prop) (Kr : H → Prop) : Prop :=
  Kn x2 x7 h
theorem F326_6_ok (Kn Kr) (t : T) (h : H) (H0 : F326_6 (t 2) (t 7) h Kn Kr) : Wp Tryz.prog 13 (rfA (blkC (rest 1 (seqL (rest 1 (bodyOf Tryz.f326.body)))))) (mkQ (fun t h => Kn (t 2) (t 5) h) (fun t h => Kr  h) ke0) t h :=
  wpEqF H0 (by kernel_rfl)
def F326_4r (x2 : Value) (L : LObj) (l : Nat) (a0 : Value) (h : H) (K : Value → H → Prop) : Prop :=
  F326_6 x2 a0 h (fun y2 y5 h => h l = some (L .ready none) ∧ F326_5 y2 y5 (upd h l (L .busy none)) (roundK L l K) (roundR L l K)) (fun _ => False)
theorem F326_4r_ok (t : T) (l : Nat) (a0 : Value) (h : H) (K : Value → H → Prop) (H0 : F326_4r (t 2) (rfL (blkC (rest 1 (seqL (rest 1 (bodyOf Tryz.f326.body))))) t 13) l a0 h K) : Round Tryz.prog 13 (blkC (rest 1 (seqL (rest 1 (bodyOf Tryz.f326.body))))) t l [a0] h K :=
  ⟨by kernel_rfl, F326_6_ok (fun y2 y5 h => h l = some (rfL (blkC (rest 1 (seqL (rest 1 (bodyOf Tryz.f326.body))))) t 13 .ready none) ∧ F326_5 y2 y5 (upd h l (rfL (blkC (rest 1 (seqL (rest 1 (bodyOf Tryz.f326.body))))) t 13 .busy none)) (roundK (rfL (blkC (rest 1 (seqL (rest 1 (bodyOf Tryz.f326.body))))) t 13) l K) (roundR (rfL (blkC (rest 1 (seqL (rest 1 (bodyOf Tryz.f326.body))))) t 13) l K)) (fun _ => False) (tround 13 t (rfPs (blkC (rest 1 (seqL (rest 1 (bodyOf Tryz.f326.body)))))) [a0]) h (byEq H0 (by kernel_rfl)) |>.weaken fun t1 h1 hh => ⟨hh.1, F326_5_ok _ _ t1 _ hh.2⟩⟩
def F326_4 (x2 x4 x6 x13 : Value) (h : H) (Kn : Value → Value → H → Prop) (Kr : Value → Value → H → Prop) (Ke0 : Value → Value → H → Prop) : Prop :=
  o_rangeFunc Tryz.prog (fun L l args h K => match args with | [a0] => F326_4r x2 L l a0 h K | _ => False) x6 x13 h (fun m h => Kn x2 m h) (fun m h => Kr x4 m h)
theorem F326_4_ok (Kn Kr Ke0) (t : T) (h : H) (H0 : F326_4 (t 2) (t 4) (t 6) (t 13) h Kn Kr Ke0) : Wp Tryz.prog 13 (blkC (rest 1 (seqL (rest 1 (bodyOf Tryz.f326.body))))) (mkQ (fun t h => Kn (t 2) (t 13) h) (fun t h => Kr (t 4) (t 13) h) (keAdd 0 (fun t h => Ke0 (t 2) (t 13) h) ke0)) t h := by
  refine range_ok mixed (R := (fun L l args h K => match args with | [a0] => F326_4r (t 2) L l a0 h K | _ => False)) H0 (by kernel_rfl) (by kernel_rfl) (by kernel_rfl) (by kernel_rfl) (fun l args h K H1 => ?_) (by kernel_rfl)
  rcases args with _ | ⟨a0, _ | ⟨z, zs⟩⟩
  · exact absurd H1 id
  · exact F326_4r_ok t l a0 h K H1
  · exact absurd H1 id
def F326_3 (x2 x4 x6 x13 : Value) (h : H) (Kn : Value → Value → H → Prop) (Kr : Value → Value → H → Prop) : Prop :=
  F326_4 x2 x4 x6 x13 h Kn Kr Kn
theorem F326_3_ok (Kn Kr) (t : T) (h : H) (H0 : F326_3 (t 2) (t 4) (t 6) (t 13) h Kn Kr) : Wp Tryz.prog 13 (rest 1 (seqL (rest 1 (bodyOf Tryz.f326.body)))) (mkQ (fun t h => Kn (t 2) (t 13) h) (fun t h => Kr (t 4) (t 13) h) ke0) t h :=
  block_ok 0 (by kernel_rfl) (by kernel_rfl) (F326_4_ok Kn Kr Kn t h H0)
def F326_2 (x1 x2 x4 x13 : Value) (h : H) (Kn : Value → Value → H → Prop) (Kr : Value → Value → H → Prop) : Prop :=
  F326_3 x2 x4 x1 x13 h Kn Kr
theorem F326_2_ok (Kn Kr) (t : T) (h : H) (H0 : F326_2 (t 1) (t 2) (t 4) (t 13) h Kn Kr) : Wp Tryz.prog 13 (seqL (rest 1 (bodyOf Tryz.f326.body))) (mkQ (fun t h => Kn (t 2) (t 13) h) (fun t h => Kr (t 4) (t 13) h) ke0) t h :=
  awpTo_okF 1 H0 (by kernel_rfl) (fun t h (H1 : F326_3 (t 2) (t 4) (t 6) (t 13) h Kn Kr) => F326_3_ok Kn Kr t h H1) (by kernel_rfl)
def F326_7 (x2 x13 : Value) (h : H) (Kn : Value → Value → H → Prop) (Kr : Value → Value → H → Prop) : Prop :=
  o_load false 1 x2 h fun v12 => Kr v12 x13 h
theorem F326_7_ok (Kn Kr) (t : T) (h : H) (H0 : F326_7 (t 2) (t 13) h Kn Kr) : Wp Tryz.prog 13 (seqR (rest 1 (bodyOf Tryz.f326.body))) (mkQ (fun t h => Kn (t 4) (t 13) h) (fun t h => Kr (t 4) (t 13) h) ke0) t h :=
  wpEqF H0 (by kernel_rfl)
def F326_1 (x1 x2 x4 x13 : Value) (h : H) (Kn : Value → Value → H → Prop) (Kr : Value → Value → H → Prop) : Prop :=
  F326_2 x1 x2 x4 x13 h (fun y2 y13 h => F326_7 y2 y13 h Kn Kr) Kr
theorem F326_1_ok (Kn Kr) (t : T) (h : H) (H0 : F326_1 (t 1) (t 2) (t 4) (t 13) h Kn Kr) : Wp Tryz.prog 13 (rest 1 (bodyOf Tryz.f326.body)) (mkQ (fun t h => Kn (t 4) (t 13) h) (fun t h => Kr (t 4) (t 13) h) ke0) t h :=
  seq_ok (by kernel_rfl) (fun t h H1 => F326_7_ok Kn Kr t h H1) (F326_2_ok (fun y2 y13 h => F326_7 y2 y13 h Kn Kr) Kr t h H0)
def F326_0 (x0 x1 x13 : Value) (h : H) (Kn : Value → Value → H → Prop) (Kr : Value → Value → H → Prop) : Prop :=
  boxV x0 = true ∧ o_new (Value.cells x0).toList 28 .exact h fun b2 h => F326_1 x1 (.pointer (some ⟨b2, 0, none⟩)) (.slice none 0 0) x13 h Kn Kr
theorem F326_0_ok (Kn Kr) (t : T) (h : H) (H0 : F326_0 (t 0) (t 1) (t 13) h Kn Kr) : Wp Tryz.prog 13 (bodyOf Tryz.f326.body) (mkQ (fun t h => Kn (t 4) (t 13) h) (fun t h => Kr (t 4) (t 13) h) ke0) t h :=
  awpTo_okF 1 H0 (by kernel_rfl) (fun t h (H1 : F326_1 (t 1) (t 2) (t 4) (t 13) h Kn Kr) => F326_1_ok Kn Kr t h H1) (by kernel_rfl)
def F326 (x0 x1 : Value) (h : H) (Q : Value → H → Prop) : Prop := F326_0 x0 x1 undef h (fun y4 y13 h => o_ret y13 h (fun h => Q y4 h)) (fun y4 y13 h => o_ret y13 h (fun h => Q y4 h))
theorem F326_spec (x0 x1 : Value) (h : H) (Q : Value → H → Prop) (H0 : F326 x0 x1 h Q) : AM.Spec Tryz.prog 326 [x0, x1] h Q :=
  spec_wpm mixed (fn := Tryz.f326) Tryz.func326 (c := bodyOf Tryz.f326.body) (rs := [4]) (N := 13) (by kernel_rfl) (by kernel_rfl) (by kernel_rfl) (by kernel_rfl) (by kernel_rfl) (Nat.le_of_ble_eq_true rfl) (F326_0_ok (fun y4 y13 h => o_ret y13 h (fun h => Q y4 h)) (fun y4 y13 h => o_ret y13 h (fun h => Q y4 h)) (tinit [x0, x1]) h H0) (by kernel_rfl)
/-! #### 296: maps.Keys[map[uint32]*tincture/mem.page,uint32,*tincture/mem.page]$1 -/
def F296_3 (x0 x5 : Value) (h : H) (Kn : Value → Value → H → Prop) (Kr : H → Prop) (Ke0 : H → Prop) : Prop :=
  o_next x5 h fun v6 h => o_extract v6 0 fun v7 => o_if v7 (o_entry x5 h fun v8 => o_extract v8 0 fun v9 => o_dyn Tryz.prog x0 [v9] h fun v12 h => o_un Tryz.prog .not v12 fun v13 => o_if v13 (Kr h) (Kn x0 x5 h)) (Ke0 h)
theorem F296_3_ok (Kn Kr Ke0) (t : T) (h : H) (H0 : F296_3 (t 0) (t 5) h Kn Kr Ke0) : Wp Tryz.prog 14 (lopC (blkC (rest 1 (bodyOf Tryz.f296.body)))) (mkQ (fun t h => Kn (t 0) (t 5) h) (fun t h => Kr  h) (keAdd 0 (fun t h => Ke0  h) ke0)) t h :=
  wpEqF H0 (by kernel_rfl)
def F296_2 (x0 x5 : Value) (h : H) (Kn : H → Prop) (Kr : H → Prop) (Ke0 : H → Prop) : Prop :=
  sloop (S := Value × Value) (fun s h K => F296_3 s.1 s.2 h (fun y0 y5 h => K (y0, y5) h) Kr Ke0) (x0, x5) h
theorem F296_2_ok (Kn Kr Ke0) (t : T) (h : H) (H0 : F296_2 (t 0) (t 5) h Kn Kr Ke0) : Wp Tryz.prog 14 (blkC (rest 1 (bodyOf Tryz.f296.body))) (mkQ (fun t h => Kn  h) (fun t h => Kr  h) (keAdd 0 (fun t h => Ke0  h) ke0)) t h :=
  loop_ok (fun t => (t 0, t 5)) (by kernel_rfl) (fun t h K H1 => F296_3_ok (fun y0 y5 h => K (y0, y5) h) Kr Ke0 t h H1) H0
def F296_1 (x0 x5 : Value) (h : H) (Kn : H → Prop) (Kr : H → Prop) : Prop :=
  F296_2 x0 x5 h Kn Kr Kn
theorem F296_1_ok (Kn Kr) (t : T) (h : H) (H0 : F296_1 (t 0) (t 5) h Kn Kr) : Wp Tryz.prog 14 (rest 1 (bodyOf Tryz.f296.body)) (mkQ (fun t h => Kn  h) (fun t h => Kr  h) ke0) t h :=
  block_ok 0 (by kernel_rfl) (by kernel_rfl) (F296_2_ok Kn Kr Kn t h H0)
def F296_0 (x0 x1 : Value) (h : H) (Kn : H → Prop) (Kr : H → Prop) : Prop :=
  o_load false 1 x1 h fun v4 => o_range v4 h fun v5 h => F296_1 x0 v5 h Kn Kr
theorem F296_0_ok (Kn Kr) (t : T) (h : H) (H0 : F296_0 (t 0) (t 1) h Kn Kr) : Wp Tryz.prog 14 (bodyOf Tryz.f296.body) (mkQ (fun t h => Kn  h) (fun t h => Kr  h) ke0) t h :=
  awpTo_okF 1 H0 (by kernel_rfl) (fun t h (H1 : F296_1 (t 0) (t 5) h Kn Kr) => F296_1_ok Kn Kr t h H1) (by kernel_rfl)
def F296 (x0 x1 : Value) (h : H) (Q : Value → H → Prop) : Prop := F296_0 x0 x1 h (fun h => bif [].all boxV then Q (.tuple #[]) h else False) (fun h => bif [].all boxV then Q (.tuple #[]) h else False)
theorem F296_spec (x0 x1 : Value) (h : H) (Q : Value → H → Prop) (H0 : F296 x0 x1 h Q) : AM.Spec Tryz.prog 296 [x0, x1] h Q :=
  spec_wp mixed (fn := Tryz.f296) Tryz.func296 (c := bodyOf Tryz.f296.body) (rs := []) (N := 14) (by kernel_rfl) (by kernel_rfl) (by kernel_rfl) (by kernel_rfl) (by kernel_rfl) (Nat.le_of_ble_eq_true rfl) (F296_0_ok (fun h => bif [].all boxV then Q (.tuple #[]) h else False) (fun h => bif [].all boxV then Q (.tuple #[]) h else False) (tinit [x0, x1]) h H0) (by kernel_rfl)
/-! #### 294: slices.Collect[uint32] -/
def F294_0 (x0 : Value) (h : H) (Kn : Value → H → Prop) (Kr : Value → H → Prop) : Prop :=
  o_call Tryz.prog 326 [(.slice none 0 0), x0] h fun v4 h => Kr v4 h
theorem F294_0_ok (Kn Kr) (t : T) (h : H) (H0 : F294_0 (t 0) h Kn Kr) : Wp Tryz.prog 5 (bodyOf Tryz.f294.body) (mkQ (fun t h => Kn (t 2) h) (fun t h => Kr (t 2) h) ke0) t h :=
  wpEqF H0 (by kernel_rfl)
def F294 (x0 : Value) (h : H) (Q : Value → H → Prop) : Prop := F294_0 x0 h (fun v h => Q v h) (fun v h => Q v h)
theorem F294_spec (x0 : Value) (h : H) (Q : Value → H → Prop) (H0 : F294 x0 h Q) : AM.Spec Tryz.prog 294 [x0] h Q :=
  spec_wp mixed (fn := Tryz.f294) Tryz.func294 (c := bodyOf Tryz.f294.body) (rs := [2]) (N := 5) (by kernel_rfl) (by kernel_rfl) (by kernel_rfl) (by kernel_rfl) (by kernel_rfl) (Nat.le_of_ble_eq_true rfl) (F294_0_ok (fun v h => Q v h) (fun v h => Q v h) (tinit [x0]) h H0) (by kernel_rfl)
/-! #### 218: slices.Sorted[uint32] -/
def F218_0 (x0 : Value) (h : H) (Kn : Value → H → Prop) (Kr : Value → H → Prop) : Prop :=
  o_call Tryz.prog 294 [x0] h fun v5 h => o_call Tryz.prog 295 [v5] h fun v7 h => Kr v5 h
theorem F218_0_ok (Kn Kr) (t : T) (h : H) (H0 : F218_0 (t 0) h Kn Kr) : Wp Tryz.prog 9 (bodyOf Tryz.f218.body) (mkQ (fun t h => Kn (t 2) h) (fun t h => Kr (t 2) h) ke0) t h :=
  wpEqF H0 (by kernel_rfl)
def F218 (x0 : Value) (h : H) (Q : Value → H → Prop) : Prop := F218_0 x0 h (fun v h => Q v h) (fun v h => Q v h)
theorem F218_spec (x0 : Value) (h : H) (Q : Value → H → Prop) (H0 : F218 x0 h Q) : AM.Spec Tryz.prog 218 [x0] h Q :=
  spec_wp mixed (fn := Tryz.f218) Tryz.func218 (c := bodyOf Tryz.f218.body) (rs := [2]) (N := 9) (by kernel_rfl) (by kernel_rfl) (by kernel_rfl) (by kernel_rfl) (by kernel_rfl) (Nat.le_of_ble_eq_true rfl) (F218_0_ok (fun v h => Q v h) (fun v h => Q v h) (tinit [x0]) h H0) (by kernel_rfl)
/-! #### 219: maps.Keys[map[uint32]*tincture/mem.page,uint32,*tincture/mem.page] -/
def F219_0 (x0 : Value) (h : H) (Kn : Value → H → Prop) (Kr : Value → H → Prop) : Prop :=
  boxV x0 = true ∧ o_new (Value.cells x0).toList 205 .exact h fun b1 h => List.all [] plainC = true ∧ List.all [(.pointer (some ⟨b1, 0, none⟩))] plainC = true ∧ Kr (.func (.func 296) #[] #[(.pointer (some ⟨b1, 0, none⟩))]) h
theorem F219_0_ok (Kn Kr) (t : T) (h : H) (H0 : F219_0 (t 0) h Kn Kr) : Wp Tryz.prog 4 (bodyOf Tryz.f219.body) (mkQ (fun t h => Kn (t 2) h) (fun t h => Kr (t 2) h) ke0) t h :=
  wpEqF H0 (by kernel_rfl)
def F219 (x0 : Value) (h : H) (Q : Value → H → Prop) : Prop := F219_0 x0 h (fun v h => Q v h) (fun v h => Q v h)
theorem F219_spec (x0 : Value) (h : H) (Q : Value → H → Prop) (H0 : F219 x0 h Q) : AM.Spec Tryz.prog 219 [x0] h Q :=
  spec_wp mixed (fn := Tryz.f219) Tryz.func219 (c := bodyOf Tryz.f219.body) (rs := [2]) (N := 4) (by kernel_rfl) (by kernel_rfl) (by kernel_rfl) (by kernel_rfl) (by kernel_rfl) (Nat.le_of_ble_eq_true rfl) (F219_0_ok (fun v h => Q v h) (fun v h => Q v h) (tinit [x0]) h H0) (by kernel_rfl)
/-! #### 140: (*tincture/mem.Mem).Pages -/
def F140_0 (x0 : Value) (h : H) (Kn : Value → H → Prop) (Kr : Value → H → Prop) : Prop :=
  o_nilCheck x0 fun v4 => o_fieldAddr 1 v4 fun v5 => o_load false 1 v5 h fun v6 => o_call Tryz.prog 219 [v6] h fun v7 h => o_call Tryz.prog 218 [v7] h fun v8 h => Kr v8 h
theorem F140_0_ok (Kn Kr) (t : T) (h : H) (H0 : F140_0 (t 0) h Kn Kr) : Wp Tryz.prog 9 (bodyOf Tryz.f140.body) (mkQ (fun t h => Kn (t 2) h) (fun t h => Kr (t 2) h) ke0) t h :=
  wpEqF H0 (by kernel_rfl)
def F140 (x0 : Value) (h : H) (Q : Value → H → Prop) : Prop := F140_0 x0 h (fun v h => Q v h) (fun v h => Q v h)
theorem F140_spec (x0 : Value) (h : H) (Q : Value → H → Prop) (H0 : F140 x0 h Q) : AM.Spec Tryz.prog 140 [x0] h Q :=
  spec_wp mixed (fn := Tryz.f140) Tryz.func140 (c := bodyOf Tryz.f140.body) (rs := [2]) (N := 9) (by kernel_rfl) (by kernel_rfl) (by kernel_rfl) (by kernel_rfl) (by kernel_rfl) (Nat.le_of_ble_eq_true rfl) (F140_0_ok (fun v h => Q v h) (fun v h => Q v h) (tinit [x0]) h H0) (by kernel_rfl)
end Go.Proofs.YtjdhldfeflmneaaGreat
