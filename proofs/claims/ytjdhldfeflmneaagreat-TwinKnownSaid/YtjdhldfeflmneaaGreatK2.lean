import Derived.Test.YtjdhldfeflmneaaGreatProg
import Derived.Test.YtjdhldfeflmneaaGreatM9
import Derived.KernelRfl
import Derived.WalkKit
import Derived.Laws.Externs
import Derived.MapKept
import Derived.Test.YtjdhldfeflmneaaGreatK1
/-
  maps.Clone, walked over the loaded program: its instances.
-/
set_option linter.unusedSimpArgs false
set_option linter.unusedVariables false
namespace Go.Proofs.YtjdhldfeflmneaaGreat
open Go.RowKit Go.Proofs.YtjdhldfeflmneaaGreat.AM
theorem run_eqInMap {P : Program} (w : World) (d : Nat) (t k e : TypeId) (p : Option Nat) (h : P.underlying t = some (.map k e)) : (Op.equalIn (d + 1) t (.map p) (.map none)).run P w = .ok p.isNone w := by
  cases p <;> simp [Op.equalIn, run_underlying h]
theorem run_nilmap {P : Program} (w : World) (t k e : TypeId) (p : Option Nat) (h : P.underlying t = some (.map k e)) : (binOp .eql t (.map p) (.map none)).run P w = .ok (.bool p.isNone) w := by
  simp only [binOp]
  simp [show Op.equal t (.map p) (.map none) = Op.equalIn (9999 + 1) t (.map p) (.map none) from rfl, run_eqInMap w 9999 t k e p h]
theorem run_assertMap {P : Program} (w : World) (t xT k e : TypeId) (v : Value) (h : P.underlying t = some (.map k e)) : (Instr.typeAssert (.iface t v) xT t false).run P w = .ok v w := by
  simp [Instr.typeAssert, run_underlying h, go_sem, Result.andThen]
theorem run_clone {P : Program} (w : World) {r : Nat} {es : Array MapEntry} {clock : Nat} (t : TypeId) (hb : w.heap[r]? = some (.map es clock)) :
    (Extern.MapsClone.clone #[.iface t (.map (some r))]).run P w = .ok (.iface t (.map (some w.heap.size))) (w.alloc (.map es clock)) := by
  have e : Extern.MapsClone.clone #[.iface t (.map (some r))] = (getObj r >>= fun o => match o with
      | .map entries clock => (newObj (.map entries clock) >>= fun n => pure (.iface t (.map (some n))))
      | _ => stuck "maps.clone: a map expected") := rfl
  rw [e]
  simp [MapKept.run_getObj_map hb, Result.andThen, go_sem]
set_option maxRecDepth 100000 in
set_option maxHeartbeats 2000000 in
theorem clone125_some (b : Nat) (es : Array MapEntry) (clock : Nat) (w : World) (hb : w.heap[b]? = some (.map es clock)) :
    Calls Tryz.prog 125 #[.map (some b)] w fun e w' => e = .returned (.map (some w.heap.size)) ∧ w' = w.alloc (.map es clock) := by
  have hq := fun w => run_nilmap (P := Tryz.prog) w 206 _ _ (some b) Tryz.underlying206
  go_enter Tryz.func125, Tryz.ntmps125
  go_wp2
  rw [run_callFunc_extern Tryz.func199 (by kernel_rfl) (by kernel_rfl) (by kernel_rfl) (e := Extern.MapsClone.clone) (by kernel_rfl), run_clone w 206 hb]
  simp only [Result.andThen]
  rw [Oper.upon_value]
  go_wp2
  rw [run_assertMap _ 206 _ _ _ _ Tryz.underlying206]
  simp only [Result.andThen]
  rw [Oper.upon_value]
  go_wp2
  go_ret
  exact ⟨rfl, rfl⟩
set_option maxRecDepth 100000 in
set_option maxHeartbeats 2000000 in
theorem clone125_none (w : World) : Calls Tryz.prog 125 #[.map none] w fun e w' => e = .returned (.map none) ∧ w' = w := by
  have hq := fun w => run_nilmap (P := Tryz.prog) w 206 _ _ none Tryz.underlying206
  go_enter Tryz.func125, Tryz.ntmps125
  go_wp2
  go_ret
  exact ⟨rfl, rfl⟩
theorem clone125 : IsClone Tryz.prog 125 := ⟨clone125_some, clone125_none⟩
set_option maxRecDepth 100000 in
set_option maxHeartbeats 2000000 in
theorem clone127_some (b : Nat) (es : Array MapEntry) (clock : Nat) (w : World) (hb : w.heap[b]? = some (.map es clock)) :
    Calls Tryz.prog 127 #[.map (some b)] w fun e w' => e = .returned (.map (some w.heap.size)) ∧ w' = w.alloc (.map es clock) := by
  have hq := fun w => run_nilmap (P := Tryz.prog) w 226 _ _ (some b) Tryz.underlying226
  go_enter Tryz.func127, Tryz.ntmps127
  go_wp2
  rw [run_callFunc_extern Tryz.func199 (by kernel_rfl) (by kernel_rfl) (by kernel_rfl) (e := Extern.MapsClone.clone) (by kernel_rfl), run_clone w 226 hb]
  simp only [Result.andThen]
  rw [Oper.upon_value]
  go_wp2
  rw [run_assertMap _ 226 _ _ _ _ Tryz.underlying226]
  simp only [Result.andThen]
  rw [Oper.upon_value]
  go_wp2
  go_ret
  exact ⟨rfl, rfl⟩
set_option maxRecDepth 100000 in
set_option maxHeartbeats 2000000 in
theorem clone127_none (w : World) : Calls Tryz.prog 127 #[.map none] w fun e w' => e = .returned (.map none) ∧ w' = w := by
  have hq := fun w => run_nilmap (P := Tryz.prog) w 226 _ _ none Tryz.underlying226
  go_enter Tryz.func127, Tryz.ntmps127
  go_wp2
  go_ret
  exact ⟨rfl, rfl⟩
theorem clone127 : IsClone Tryz.prog 127 := ⟨clone127_some, clone127_none⟩
set_option maxRecDepth 100000 in
set_option maxHeartbeats 2000000 in
theorem clone128_some (b : Nat) (es : Array MapEntry) (clock : Nat) (w : World) (hb : w.heap[b]? = some (.map es clock)) :
    Calls Tryz.prog 128 #[.map (some b)] w fun e w' => e = .returned (.map (some w.heap.size)) ∧ w' = w.alloc (.map es clock) := by
  have hq := fun w => run_nilmap (P := Tryz.prog) w 227 _ _ (some b) Tryz.underlying227
  go_enter Tryz.func128, Tryz.ntmps128
  go_wp2
  rw [run_callFunc_extern Tryz.func199 (by kernel_rfl) (by kernel_rfl) (by kernel_rfl) (e := Extern.MapsClone.clone) (by kernel_rfl), run_clone w 227 hb]
  simp only [Result.andThen]
  rw [Oper.upon_value]
  go_wp2
  rw [run_assertMap _ 227 _ _ _ _ Tryz.underlying227]
  simp only [Result.andThen]
  rw [Oper.upon_value]
  go_wp2
  go_ret
  exact ⟨rfl, rfl⟩
set_option maxRecDepth 100000 in
set_option maxHeartbeats 2000000 in
theorem clone128_none (w : World) : Calls Tryz.prog 128 #[.map none] w fun e w' => e = .returned (.map none) ∧ w' = w := by
  have hq := fun w => run_nilmap (P := Tryz.prog) w 227 _ _ none Tryz.underlying227
  go_enter Tryz.func128, Tryz.ntmps128
  go_wp2
  go_ret
  exact ⟨rfl, rfl⟩
theorem clone128 : IsClone Tryz.prog 128 := ⟨clone128_some, clone128_none⟩
noncomputable def SK : CallF := orS (s_clone 125) (orS (s_clone 127) (s_clone 128))
theorem SK_ok : CallOk Tryz.prog SK := orS_ok (s_clone_ok clone125) (orS_ok (s_clone_ok clone127) (s_clone_ok clone128))
end Go.Proofs.YtjdhldfeflmneaaGreat

/-
  The copies of a memory, of labels: what the executor takes for them, proved to stand for the code.
-/
set_option linter.unusedSimpArgs false
set_option linter.unusedVariables false
set_option maxRecDepth 100000
namespace Go.Proofs.YtjdhldfeflmneaaGreat
open Go.Proofs.YtjdhldfeflmneaaGreat.AM
theorem seqReg {P : Program} {N : Nat} {c : Code} {run : RunF} {s s' : XS} {F : H} {ρ : Ren} {t : T} {h : H} {kn kr : T → H → Prop} {ke : Nat → T → H → Prop} (hR : RunOk P run) (hev : run N (seqL c) s = some (.normal, s')) (hok : okCode N true (seqL c) = true)
    (hs : SR F ρ N s t h) (hi : isSeq c = true) (hk : ∀ ρ' t' h', ρ.le ρ' → SR F ρ' N s' t' h' → Wp P N (seqR c) (mkQ kn kr ke) t' h') : Wp P N c (mkQ kn kr ke) t h := by
  refine seq_ok (kn' := fun t h => Wp P N (seqR c) (mkQ kn kr ke) t h) hi (fun t h H1 => H1) ⟨hR _ _ _ _ _ _ hev hok F ρ h t _ hs fun ρ' t' h' hle hs' => ?_⟩
  exact hk ρ' t' h' hle hs'
theorem tr_one {ρ : Ren} {m : XA} {t : T} (h : RA ρ m (t 0)) : TR ρ ((XT.new 0).set 0 (.a m)) t := by
  intro i v hi
  rw [XT.get_set] at hi
  split at hi
  · rename_i he
    subst he
    cases hi
    exact .a h
  · rw [XT.get_new] at hi; cases hi
def F55_7 (x3 x23 : Value) (h : H) (Kn : Value → Value → H → Prop) (Kr : Value → H → Prop) (Ke0 : Value → H → Prop) : Prop :=
  o_next x23 h fun v24 h => o_extract v24 0 fun v25 => o_if v25 (o_entry x23 h fun v26 => o_extract v26 0 fun v27 => o_extract v26 1 fun v28 => o_nilCheck v28 fun v30 => o_load true 257 v30 h fun v31 => o_new [.int .u8 0, .int .u8 0, .int .u8 0, .int .u8 0, .int .u8 0, .int .u8 0, .int .u8 0, .int .u8 0, .int .u8 0, .int .u8 0, .int .u8 0, .int .u8 0, .int .u8 0, .int .u8 0, .int .u8 0, .int .u8 0, .int .u8 0, .int .u8 0, .int .u8 0, .int .u8 0, .int .u8 0, .int .u8 0, .int .u8 0, .int .u8 0, .int .u8 0, .int .u8 0, .int .u8 0, .int .u8 0, .int .u8 0, .int .u8 0, .int .u8 0, .int .u8 0, .int .u8 0, .int .u8 0, .int .u8 0, .int .u8 0, .int .u8 0, .int .u8 0, .int .u8 0, .int .u8 0, .int .u8 0, .int .u8 0, .int .u8 0, .int .u8 0, .int .u8 0, .int .u8 0, .int .u8 0, .int .u8 0, .int .u8 0, .int .u8 0, .int .u8 0, .int .u8 0, .int .u8 0, .int .u8 0, .int .u8 0, .int .u8 0, .int .u8 0, .int .u8 0, .int .u8 0, .int .u8 0, .int .u8 0, .int .u8 0, .int .u8 0, .int .u8 0, .int .u8 0, .int .u8 0, .int .u8 0, .int .u8 0, .int .u8 0, .int .u8 0, .int .u8 0, .int .u8 0, .int .u8 0, .int .u8 0, .int .u8 0, .int .u8 0, .int .u8 0, .int .u8 0, .int .u8 0, .int .u8 0, .int .u8 0, .int .u8 0, .int .u8 0, .int .u8 0, .int .u8 0, .int .u8 0, .int .u8 0, .int .u8 0, .int .u8 0, .int .u8 0, .int .u8 0, .int .u8 0, .int .u8 0, .int .u8 0, .int .u8 0, .int .u8 0, .int .u8 0, .int .u8 0, .int .u8 0, .int .u8 0, .int .u8 0, .int .u8 0, .int .u8 0, .int .u8 0, .int .u8 0, .int .u8 0, .int .u8 0, .int .u8 0, .int .u8 0, .int .u8 0, .int .u8 0, .int .u8 0, .int .u8 0, .int .u8 0, .int .u8 0, .int .u8 0, .int .u8 0, .int .u8 0, .int .u8 0, .int .u8 0, .int .u8 0, .int .u8 0, .int .u8 0, .int .u8 0, .int .u8 0, .int .u8 0, .int .u8 0, .int .u8 0, .int .u8 0, .int .u8 0, .int .u8 0, .int .u8 0, .int .u8 0, .int .u8 0, .int .u8 0, .int .u8 0, .int .u8 0, .int .u8 0, .int .u8 0, .int .u8 0, .int .u8 0, .int .u8 0, .int .u8 0, .int .u8 0, .int .u8 0, .int .u8 0, .int .u8 0, .int .u8 0, .int .u8 0, .int .u8 0, .int .u8 0, .int .u8 0, .int .u8 0, .int .u8 0, .int .u8 0, .int .u8 0, .int .u8 0, .int .u8 0, .int .u8 0, .int .u8 0, .int .u8 0, .int .u8 0, .int .u8 0, .int .u8 0, .int .u8 0, .int .u8 0, .int .u8 0, .int .u8 0, .int .u8 0, .int .u8 0, .int .u8 0, .int .u8 0, .int .u8 0, .int .u8 0, .int .u8 0, .int .u8 0, .int .u8 0, .int .u8 0, .int .u8 0, .int .u8 0, .int .u8 0, .int .u8 0, .int .u8 0, .int .u8 0, .int .u8 0, .int .u8 0, .int .u8 0, .int .u8 0, .int .u8 0, .int .u8 0, .int .u8 0, .int .u8 0, .int .u8 0, .int .u8 0, .int .u8 0, .int .u8 0, .int .u8 0, .int .u8 0, .int .u8 0, .int .u8 0, .int .u8 0, .int .u8 0, .int .u8 0, .int .u8 0, .int .u8 0, .int .u8 0, .int .u8 0, .int .u8 0, .int .u8 0, .int .u8 0, .int .u8 0, .int .u8 0, .int .u8 0, .int .u8 0, .int .u8 0, .int .u8 0, .int .u8 0, .int .u8 0, .int .u8 0, .int .u8 0, .int .u8 0, .int .u8 0, .int .u8 0, .int .u8 0, .int .u8 0, .int .u8 0, .int .u8 0, .int .u8 0, .int .u8 0, .int .u8 0, .int .u8 0, .int .u8 0, .int .u8 0, .int .u8 0, .int .u8 0, .int .u8 0, .int .u8 0, .int .u8 0, .int .u8 0, .int .u8 0, .int .u8 0, .int .u8 0, .int .u8 0, .int .u8 0, .int .u8 0, .int .u8 0, .int .u8 0, .int .u8 0, .int .u8 0, .int .u8 0, .int .u8 0, .int .u8 0, .int .u8 0, .int .u8 0, .int .u8 0, .int .u8 0, .int .i64 0] 127 .exact h fun b6 h => o_store 257 (.pointer (some ⟨b6, 0, none⟩)) v31 h fun h => o_nilCheck x3 fun v33 => o_fieldAddr 1 v33 fun v34 => o_load false 1 v34 h fun v35 => o_mapUpdate (.int .u32) v35 v27 (.pointer (some ⟨b6, 0, none⟩)) h fun h => Kn x3 x23 h) (Ke0 x3 h)
theorem F55_7_ok (Kn Kr Ke0) (t : T) (h : H) (H0 : F55_7 (t 3) (t 23) h Kn Kr Ke0) : Wp Tryz.prog 38 (lopC (blkC (rest 1 (seqL (seqR (rest 1 (bodyOf Tryz.f55.body))))))) (mkQ (fun t h => Kn (t 3) (t 23) h) (fun t h => Kr (t 2) h) (keAdd 0 (fun t h => Ke0 (t 3) h) ke0)) t h :=
  wpEqF H0 (by kernel_rfl)
def F55_6 (x3 x23 : Value) (h : H) (Kn : Value → H → Prop) (Kr : Value → H → Prop) (Ke0 : Value → H → Prop) : Prop :=
  sloop (S := Value × Value) (fun s h K => F55_7 s.1 s.2 h (fun y3 y23 h => K (y3, y23) h) Kr Ke0) (x3, x23) h
theorem F55_6_ok (Kn Kr Ke0) (t : T) (h : H) (H0 : F55_6 (t 3) (t 23) h Kn Kr Ke0) : Wp Tryz.prog 38 (blkC (rest 1 (seqL (seqR (rest 1 (bodyOf Tryz.f55.body)))))) (mkQ (fun t h => Kn (t 3) h) (fun t h => Kr (t 2) h) (keAdd 0 (fun t h => Ke0 (t 3) h) ke0)) t h :=
  loop_ok (fun t => (t 3, t 23)) (by kernel_rfl) (fun t h K H1 => F55_7_ok (fun y3 y23 h => K (y3, y23) h) Kr Ke0 t h H1) H0
def F55_5 (x3 x23 : Value) (h : H) (Kn : Value → H → Prop) (Kr : Value → H → Prop) : Prop :=
  F55_6 x3 x23 h Kn Kr Kn
theorem F55_5_ok (Kn Kr) (t : T) (h : H) (H0 : F55_5 (t 3) (t 23) h Kn Kr) : Wp Tryz.prog 38 (rest 1 (seqL (seqR (rest 1 (bodyOf Tryz.f55.body))))) (mkQ (fun t h => Kn (t 3) h) (fun t h => Kr (t 2) h) ke0) t h :=
  block_ok 0 (by kernel_rfl) (by kernel_rfl) (F55_6_ok Kn Kr Kn t h H0)
def F55_4 (x0 x3 : Value) (h : H) (Kn : Value → H → Prop) (Kr : Value → H → Prop) : Prop :=
  o_nilCheck x0 fun v20 => o_fieldAddr 1 v20 fun v21 => o_load false 1 v21 h fun v22 => o_range v22 h fun v23 h => F55_5 x3 v23 h Kn Kr
theorem F55_4_ok (Kn Kr) (t : T) (h : H) (H0 : F55_4 (t 0) (t 3) h Kn Kr) : Wp Tryz.prog 38 (seqL (seqR (rest 1 (bodyOf Tryz.f55.body)))) (mkQ (fun t h => Kn (t 3) h) (fun t h => Kr (t 2) h) ke0) t h :=
  awpTo_okF 1 H0 (by kernel_rfl) (fun t h (H1 : F55_5 (t 3) (t 23) h Kn Kr) => F55_5_ok Kn Kr t h H1) (by kernel_rfl)
def F55_8 (x3 : Value) (h : H) (Kn : Value → H → Prop) (Kr : Value → H → Prop) : Prop :=
  Kr x3 h
theorem F55_8_ok (Kn Kr) (t : T) (h : H) (H0 : F55_8 (t 3) h Kn Kr) : Wp Tryz.prog 38 (seqR (seqR (rest 1 (bodyOf Tryz.f55.body)))) (mkQ (fun t h => Kn (t 2) h) (fun t h => Kr (t 2) h) ke0) t h :=
  wpEqF H0 (by kernel_rfl)
def F55_3 (x0 x3 : Value) (h : H) (Kn : Value → H → Prop) (Kr : Value → H → Prop) : Prop :=
  F55_4 x0 x3 h (fun y3 h => F55_8 y3 h Kn Kr) Kr
theorem F55_3_ok (Kn Kr) (t : T) (h : H) (H0 : F55_3 (t 0) (t 3) h Kn Kr) : Wp Tryz.prog 38 (seqR (rest 1 (bodyOf Tryz.f55.body))) (mkQ (fun t h => Kn (t 2) h) (fun t h => Kr (t 2) h) ke0) t h :=
  seq_ok (by kernel_rfl) (fun t h H1 => F55_8_ok Kn Kr t h H1) (F55_4_ok (fun y3 h => F55_8 y3 h Kn Kr) Kr t h H0)
def Z55 : List Value := [.int .u8 0, .int .u8 0, .int .u8 0, .int .u8 0, .int .u8 0, .int .u8 0, .int .u8 0, .int .u8 0, .int .u8 0, .int .u8 0, .int .u8 0, .int .u8 0, .int .u8 0, .int .u8 0, .int .u8 0, .int .u8 0, .int .u8 0, .int .u8 0, .int .u8 0, .int .u8 0, .int .u8 0, .int .u8 0, .int .u8 0, .int .u8 0, .int .u8 0, .int .u8 0, .int .u8 0, .int .u8 0, .int .u8 0, .int .u8 0, .int .u8 0, .int .u8 0, .int .u8 0, .int .u8 0, .int .u8 0, .int .u8 0, .int .u8 0, .int .u8 0, .int .u8 0, .int .u8 0, .int .u8 0, .int .u8 0, .int .u8 0, .int .u8 0, .int .u8 0, .int .u8 0, .int .u8 0, .int .u8 0, .int .u8 0, .int .u8 0, .int .u8 0, .int .u8 0, .int .u8 0, .int .u8 0, .int .u8 0, .int .u8 0, .int .u8 0, .int .u8 0, .int .u8 0, .int .u8 0, .int .u8 0, .int .u8 0, .int .u8 0, .int .u8 0, .int .u8 0, .int .u8 0, .int .u8 0, .int .u8 0, .int .u8 0, .int .u8 0, .int .u8 0, .int .u8 0, .int .u8 0, .int .u8 0, .int .u8 0, .int .u8 0, .int .u8 0, .int .u8 0, .int .u8 0, .int .u8 0, .int .u8 0, .int .u8 0, .int .u8 0, .int .u8 0, .int .u8 0, .int .u8 0, .int .u8 0, .int .u8 0, .int .u8 0, .int .u8 0, .int .u8 0, .int .u8 0, .int .u8 0, .int .u8 0, .int .u8 0, .int .u8 0, .int .u8 0, .int .u8 0, .int .u8 0, .int .u8 0, .int .u8 0, .int .u8 0, .int .u8 0, .int .u8 0, .int .u8 0, .int .u8 0, .int .u8 0, .int .u8 0, .int .u8 0, .int .u8 0, .int .u8 0, .int .u8 0, .int .u8 0, .int .u8 0, .int .u8 0, .int .u8 0, .int .u8 0, .int .u8 0, .int .u8 0, .int .u8 0, .int .u8 0, .int .u8 0, .int .u8 0, .int .u8 0, .int .u8 0, .int .u8 0, .int .u8 0, .int .u8 0, .int .u8 0, .int .u8 0, .int .u8 0, .int .u8 0, .int .u8 0, .int .u8 0, .int .u8 0, .int .u8 0, .int .u8 0, .int .u8 0, .int .u8 0, .int .u8 0, .int .u8 0, .int .u8 0, .int .u8 0, .int .u8 0, .int .u8 0, .int .u8 0, .int .u8 0, .int .u8 0, .int .u8 0, .int .u8 0, .int .u8 0, .int .u8 0, .int .u8 0, .int .u8 0, .int .u8 0, .int .u8 0, .int .u8 0, .int .u8 0, .int .u8 0, .int .u8 0, .int .u8 0, .int .u8 0, .int .u8 0, .int .u8 0, .int .u8 0, .int .u8 0, .int .u8 0, .int .u8 0, .int .u8 0, .int .u8 0, .int .u8 0, .int .u8 0, .int .u8 0, .int .u8 0, .int .u8 0, .int .u8 0, .int .u8 0, .int .u8 0, .int .u8 0, .int .u8 0, .int .u8 0, .int .u8 0, .int .u8 0, .int .u8 0, .int .u8 0, .int .u8 0, .int .u8 0, .int .u8 0, .int .u8 0, .int .u8 0, .int .u8 0, .int .u8 0, .int .u8 0, .int .u8 0, .int .u8 0, .int .u8 0, .int .u8 0, .int .u8 0, .int .u8 0, .int .u8 0, .int .u8 0, .int .u8 0, .int .u8 0, .int .u8 0, .int .u8 0, .int .u8 0, .int .u8 0, .int .u8 0, .int .u8 0, .int .u8 0, .int .u8 0, .int .u8 0, .int .u8 0, .int .u8 0, .int .u8 0, .int .u8 0, .int .u8 0, .int .u8 0, .int .u8 0, .int .u8 0, .int .u8 0, .int .u8 0, .int .u8 0, .int .u8 0, .int .u8 0, .int .u8 0, .int .u8 0, .int .u8 0, .int .u8 0, .int .u8 0, .int .u8 0, .int .u8 0, .int .u8 0, .int .u8 0, .int .u8 0, .int .u8 0, .int .u8 0, .int .u8 0, .int .u8 0, .int .u8 0, .int .u8 0, .int .u8 0, .int .u8 0, .int .u8 0, .int .u8 0, .int .u8 0, .int .u8 0, .int .u8 0, .int .u8 0, .int .u8 0, .int .u8 0, .int .u8 0, .int .u8 0, .int .u8 0, .int .u8 0, .int .u8 0, .int .i64 0]
theorem Z55_len : Z55.length = 257 := by kernel_rfl
theorem loopEq55 (x0 x3 : Value) (h : H) (Kn Kr : Value → H → Prop) : F55_3 x0 x3 h Kn Kr = (o_nilCheck x0 fun v20 => o_fieldAddr 1 v20 fun v21 => o_load false 1 v21 h fun v22 => o_range v22 h fun v23 h => sloop (S := Value × Value) (fun s h K => copyBody 127 Z55 s.1 s.2 h (fun a b h => K (a, b) h) (fun v h => Kr v h)) (x3, v23) h) := by kernel_rfl
noncomputable def s_copy55 (run : RunF) : CallF := fun g args eh n => bc (Nat.beq g 55) (match args with
  | [m] => (match run 38 (seqL (rest 1 (bodyOf Tryz.f55.body))) ⟨(XT.new 0).set 0 (.a m), eh, n, []⟩ with
    | some (.normal, s) => (match s.t.get 0, s.t.get 3 with
      | some (.a m), some (.a c) => (match s_copyPages 127 m c s.h s.n with
        | some (eh', n') => some (.a c, eh', n')
        | none => none)
      | _, _ => none)
    | _ => none)
  | _ => none) none
theorem C55_ok (run : RunF) (hR : RunOk Tryz.prog run) {F : H} {ρ : Ren} {n : Nat} {eh : EH} {m : XA} {r : XV × EH × Nat} {Kn Kr : Value → H → Prop} (t : T) (h : H) (hu : t 38 = undef) (hs : XSim F ρ n eh h) (hm : RA ρ m (t 0)) (he : s_copy55 run 55 [m] eh n = some r) (hk : ∀ v h', CPost F ρ r v h' → Kr v h') :
    Wp Tryz.prog 38 (rest 1 (bodyOf Tryz.f55.body)) (mkQ (fun t h => Kn (t 2) h) (fun t h => Kr (t 2) h) ke0) t h := by
  unfold s_copy55 at he
  rw [Nat.beq_refl, bc_true] at he
  simp only at he
  split at he
  rotate_left
  · cases he
  rename_i s hev
  split at he
  rotate_left
  · cases he
  rename_i m1 c1 hg0 hg3
  split at he
  rotate_left
  · cases he
  rename_i eh' n' hcp
  cases he
  refine seqReg hR hev (by kernel_rfl) ⟨hs, tr_one hm, by rw [hu]; exact .nil⟩ (by kernel_rfl) fun ρ' t' h' hle hs' => ?_
  obtain ⟨h1, h2, h3⟩ := hs'
  have k0 := h2 _ _ hg0
  have k3 := h2 _ _ hg3
  cases k0 with | a k0 => ?_
  cases k3 with | a k3 => ?_
  refine F55_3_ok Kn Kr t' h' ?_
  rw [loopEq55]
  exact copyPages_ok (E := 127) (Z := Z55) (Kr := fun v h => Kr v h) Z55_len h1 k0 k3 hcp fun ρ2 h2' hle2 hs2 => hk _ _ ⟨ρ2, Ren.le_trans hle hle2, hs2, .a (k3.mono hle2)⟩
theorem P55_ok (run : RunF) (hR : RunOk Tryz.prog run) : CallOk Tryz.prog (s_copy55 run) := by
  intro g args eh n r he F ρ h args' hs ha
  have he0 := he
  unfold s_copy55 at he
  cases hf : Nat.beq g 55
  · rw [hf] at he; cases he
  obtain rfl := Nat.eq_of_beq_eq_true hf
  rw [hf, bc_true] at he
  split at he
  rotate_left
  · cases he
  rename_i m
  cases ha with
  | cons h1 t =>
    cases t
    rename_i x0
    refine spec_wp mixed (fn := Tryz.f55) Tryz.func55 (c := bodyOf Tryz.f55.body) (rs := [2]) (N := 38) (Q1 := mkQ (retV [2] (CPost F ρ r)) (retV [2] (CPost F ρ r)) ke0) (by kernel_rfl) (by kernel_rfl) (by kernel_rfl) (by kernel_rfl) (by kernel_rfl) (Nat.le_of_ble_eq_true rfl) ?_ rfl
    refine awpTo_okF (K := fun t h => Wp Tryz.prog 38 (rest 1 (bodyOf Tryz.f55.body)) (mkQ (retV [2] (CPost F ρ r)) (retV [2] (CPost F ρ r)) ke0) t h) 1 (A := Wp Tryz.prog 38 (rest 1 (bodyOf Tryz.f55.body)) (mkQ (retV [2] (CPost F ρ r)) (retV [2] (CPost F ρ r)) ke0) (tset (tinit [x0]) 2 (.pointer none)) h) ?_ (by kernel_rfl) (fun t h H1 => H1) (by kernel_rfl)
    exact C55_ok run hR (Kn := CPost F ρ r) (Kr := CPost F ρ r) (tset (tinit [x0]) 2 (.pointer none)) h rfl hs h1 he0 (fun v h' hv => hv)
def F56_5 (x3 x18 : Value) (h : H) (Kn : Value → Value → H → Prop) (Kr : Value → H → Prop) (Ke0 : Value → H → Prop) : Prop :=
  o_next x18 h fun v19 h => o_extract v19 0 fun v20 => o_if v20 (o_entry x18 h fun v21 => o_extract v21 0 fun v22 => o_extract v21 1 fun v23 => o_nilCheck v23 fun v25 => o_load true 257 v25 h fun v26 => o_new [.int .u8 0, .int .u8 0, .int .u8 0, .int .u8 0, .int .u8 0, .int .u8 0, .int .u8 0, .int .u8 0, .int .u8 0, .int .u8 0, .int .u8 0, .int .u8 0, .int .u8 0, .int .u8 0, .int .u8 0, .int .u8 0, .int .u8 0, .int .u8 0, .int .u8 0, .int .u8 0, .int .u8 0, .int .u8 0, .int .u8 0, .int .u8 0, .int .u8 0, .int .u8 0, .int .u8 0, .int .u8 0, .int .u8 0, .int .u8 0, .int .u8 0, .int .u8 0, .int .u8 0, .int .u8 0, .int .u8 0, .int .u8 0, .int .u8 0, .int .u8 0, .int .u8 0, .int .u8 0, .int .u8 0, .int .u8 0, .int .u8 0, .int .u8 0, .int .u8 0, .int .u8 0, .int .u8 0, .int .u8 0, .int .u8 0, .int .u8 0, .int .u8 0, .int .u8 0, .int .u8 0, .int .u8 0, .int .u8 0, .int .u8 0, .int .u8 0, .int .u8 0, .int .u8 0, .int .u8 0, .int .u8 0, .int .u8 0, .int .u8 0, .int .u8 0, .int .u8 0, .int .u8 0, .int .u8 0, .int .u8 0, .int .u8 0, .int .u8 0, .int .u8 0, .int .u8 0, .int .u8 0, .int .u8 0, .int .u8 0, .int .u8 0, .int .u8 0, .int .u8 0, .int .u8 0, .int .u8 0, .int .u8 0, .int .u8 0, .int .u8 0, .int .u8 0, .int .u8 0, .int .u8 0, .int .u8 0, .int .u8 0, .int .u8 0, .int .u8 0, .int .u8 0, .int .u8 0, .int .u8 0, .int .u8 0, .int .u8 0, .int .u8 0, .int .u8 0, .int .u8 0, .int .u8 0, .int .u8 0, .int .u8 0, .int .u8 0, .int .u8 0, .int .u8 0, .int .u8 0, .int .u8 0, .int .u8 0, .int .u8 0, .int .u8 0, .int .u8 0, .int .u8 0, .int .u8 0, .int .u8 0, .int .u8 0, .int .u8 0, .int .u8 0, .int .u8 0, .int .u8 0, .int .u8 0, .int .u8 0, .int .u8 0, .int .u8 0, .int .u8 0, .int .u8 0, .int .u8 0, .int .u8 0, .int .u8 0, .int .u8 0, .int .u8 0, .int .u8 0, .int .u8 0, .int .u8 0, .int .u8 0, .int .u8 0, .int .u8 0, .int .u8 0, .int .u8 0, .int .u8 0, .int .u8 0, .int .u8 0, .int .u8 0, .int .u8 0, .int .u8 0, .int .u8 0, .int .u8 0, .int .u8 0, .int .u8 0, .int .u8 0, .int .u8 0, .int .u8 0, .int .u8 0, .int .u8 0, .int .u8 0, .int .u8 0, .int .u8 0, .int .u8 0, .int .u8 0, .int .u8 0, .int .u8 0, .int .u8 0, .int .u8 0, .int .u8 0, .int .u8 0, .int .u8 0, .int .u8 0, .int .u8 0, .int .u8 0, .int .u8 0, .int .u8 0, .int .u8 0, .int .u8 0, .int .u8 0, .int .u8 0, .int .u8 0, .int .u8 0, .int .u8 0, .int .u8 0, .int .u8 0, .int .u8 0, .int .u8 0, .int .u8 0, .int .u8 0, .int .u8 0, .int .u8 0, .int .u8 0, .int .u8 0, .int .u8 0, .int .u8 0, .int .u8 0, .int .u8 0, .int .u8 0, .int .u8 0, .int .u8 0, .int .u8 0, .int .u8 0, .int .u8 0, .int .u8 0, .int .u8 0, .int .u8 0, .int .u8 0, .int .u8 0, .int .u8 0, .int .u8 0, .int .u8 0, .int .u8 0, .int .u8 0, .int .u8 0, .int .u8 0, .int .u8 0, .int .u8 0, .int .u8 0, .int .u8 0, .int .u8 0, .int .u8 0, .int .u8 0, .int .u8 0, .int .u8 0, .int .u8 0, .int .u8 0, .int .u8 0, .int .u8 0, .int .u8 0, .int .u8 0, .int .u8 0, .int .u8 0, .int .u8 0, .int .u8 0, .int .u8 0, .int .u8 0, .int .u8 0, .int .u8 0, .int .u8 0, .int .u8 0, .int .u8 0, .int .u8 0, .int .u8 0, .int .u8 0, .int .u8 0, .int .u8 0, .int .u8 0, .int .u8 0, .int .u8 0, .int .u8 0, .int .u8 0, .int .u8 0, .int .u8 0, .int .u8 0, .int .u8 0, .int .u8 0, .int .u8 0, .int .u8 0, .int .u8 0, .int .u8 0, .int .u8 0, .int .u8 0, .int .u8 0, .int .i64 0] 224 .exact h fun b6 h => o_store 257 (.pointer (some ⟨b6, 0, none⟩)) v26 h fun h => o_nilCheck x3 fun v28 => o_fieldAddr 1 v28 fun v29 => o_load false 1 v29 h fun v30 => o_mapUpdate (.int .u32) v30 v22 (.pointer (some ⟨b6, 0, none⟩)) h fun h => Kn x3 x18 h) (Ke0 x3 h)
theorem F56_5_ok (Kn Kr Ke0) (t : T) (h : H) (H0 : F56_5 (t 3) (t 18) h Kn Kr Ke0) : Wp Tryz.prog 33 (lopC (blkC (rest 1 (seqL (rest 2 (bodyOf Tryz.f56.body)))))) (mkQ (fun t h => Kn (t 3) (t 18) h) (fun t h => Kr (t 2) h) (keAdd 0 (fun t h => Ke0 (t 3) h) ke0)) t h :=
  wpEqF H0 (by kernel_rfl)
def F56_4 (x3 x18 : Value) (h : H) (Kn : Value → H → Prop) (Kr : Value → H → Prop) (Ke0 : Value → H → Prop) : Prop :=
  sloop (S := Value × Value) (fun s h K => F56_5 s.1 s.2 h (fun y3 y18 h => K (y3, y18) h) Kr Ke0) (x3, x18) h
theorem F56_4_ok (Kn Kr Ke0) (t : T) (h : H) (H0 : F56_4 (t 3) (t 18) h Kn Kr Ke0) : Wp Tryz.prog 33 (blkC (rest 1 (seqL (rest 2 (bodyOf Tryz.f56.body))))) (mkQ (fun t h => Kn (t 3) h) (fun t h => Kr (t 2) h) (keAdd 0 (fun t h => Ke0 (t 3) h) ke0)) t h :=
  loop_ok (fun t => (t 3, t 18)) (by kernel_rfl) (fun t h K H1 => F56_5_ok (fun y3 y18 h => K (y3, y18) h) Kr Ke0 t h H1) H0
def F56_3 (x3 x18 : Value) (h : H) (Kn : Value → H → Prop) (Kr : Value → H → Prop) : Prop :=
  F56_4 x3 x18 h Kn Kr Kn
theorem F56_3_ok (Kn Kr) (t : T) (h : H) (H0 : F56_3 (t 3) (t 18) h Kn Kr) : Wp Tryz.prog 33 (rest 1 (seqL (rest 2 (bodyOf Tryz.f56.body)))) (mkQ (fun t h => Kn (t 3) h) (fun t h => Kr (t 2) h) ke0) t h :=
  block_ok 0 (by kernel_rfl) (by kernel_rfl) (F56_4_ok Kn Kr Kn t h H0)
def F56_2 (x0 x3 : Value) (h : H) (Kn : Value → H → Prop) (Kr : Value → H → Prop) : Prop :=
  o_nilCheck x0 fun v15 => o_fieldAddr 1 v15 fun v16 => o_load false 1 v16 h fun v17 => o_range v17 h fun v18 h => F56_3 x3 v18 h Kn Kr
theorem F56_2_ok (Kn Kr) (t : T) (h : H) (H0 : F56_2 (t 0) (t 3) h Kn Kr) : Wp Tryz.prog 33 (seqL (rest 2 (bodyOf Tryz.f56.body))) (mkQ (fun t h => Kn (t 3) h) (fun t h => Kr (t 2) h) ke0) t h :=
  awpTo_okF 1 H0 (by kernel_rfl) (fun t h (H1 : F56_3 (t 3) (t 18) h Kn Kr) => F56_3_ok Kn Kr t h H1) (by kernel_rfl)
def F56_6 (x3 : Value) (h : H) (Kn : Value → H → Prop) (Kr : Value → H → Prop) : Prop :=
  Kr x3 h
theorem F56_6_ok (Kn Kr) (t : T) (h : H) (H0 : F56_6 (t 3) h Kn Kr) : Wp Tryz.prog 33 (seqR (rest 2 (bodyOf Tryz.f56.body))) (mkQ (fun t h => Kn (t 2) h) (fun t h => Kr (t 2) h) ke0) t h :=
  wpEqF H0 (by kernel_rfl)
def F56_1 (x0 x3 : Value) (h : H) (Kn : Value → H → Prop) (Kr : Value → H → Prop) : Prop :=
  F56_2 x0 x3 h (fun y3 h => F56_6 y3 h Kn Kr) Kr
theorem F56_1_ok (Kn Kr) (t : T) (h : H) (H0 : F56_1 (t 0) (t 3) h Kn Kr) : Wp Tryz.prog 33 (rest 2 (bodyOf Tryz.f56.body)) (mkQ (fun t h => Kn (t 2) h) (fun t h => Kr (t 2) h) ke0) t h :=
  seq_ok (by kernel_rfl) (fun t h H1 => F56_6_ok Kn Kr t h H1) (F56_2_ok (fun y3 h => F56_6 y3 h Kn Kr) Kr t h H0)
def Z56 : List Value := [.int .u8 0, .int .u8 0, .int .u8 0, .int .u8 0, .int .u8 0, .int .u8 0, .int .u8 0, .int .u8 0, .int .u8 0, .int .u8 0, .int .u8 0, .int .u8 0, .int .u8 0, .int .u8 0, .int .u8 0, .int .u8 0, .int .u8 0, .int .u8 0, .int .u8 0, .int .u8 0, .int .u8 0, .int .u8 0, .int .u8 0, .int .u8 0, .int .u8 0, .int .u8 0, .int .u8 0, .int .u8 0, .int .u8 0, .int .u8 0, .int .u8 0, .int .u8 0, .int .u8 0, .int .u8 0, .int .u8 0, .int .u8 0, .int .u8 0, .int .u8 0, .int .u8 0, .int .u8 0, .int .u8 0, .int .u8 0, .int .u8 0, .int .u8 0, .int .u8 0, .int .u8 0, .int .u8 0, .int .u8 0, .int .u8 0, .int .u8 0, .int .u8 0, .int .u8 0, .int .u8 0, .int .u8 0, .int .u8 0, .int .u8 0, .int .u8 0, .int .u8 0, .int .u8 0, .int .u8 0, .int .u8 0, .int .u8 0, .int .u8 0, .int .u8 0, .int .u8 0, .int .u8 0, .int .u8 0, .int .u8 0, .int .u8 0, .int .u8 0, .int .u8 0, .int .u8 0, .int .u8 0, .int .u8 0, .int .u8 0, .int .u8 0, .int .u8 0, .int .u8 0, .int .u8 0, .int .u8 0, .int .u8 0, .int .u8 0, .int .u8 0, .int .u8 0, .int .u8 0, .int .u8 0, .int .u8 0, .int .u8 0, .int .u8 0, .int .u8 0, .int .u8 0, .int .u8 0, .int .u8 0, .int .u8 0, .int .u8 0, .int .u8 0, .int .u8 0, .int .u8 0, .int .u8 0, .int .u8 0, .int .u8 0, .int .u8 0, .int .u8 0, .int .u8 0, .int .u8 0, .int .u8 0, .int .u8 0, .int .u8 0, .int .u8 0, .int .u8 0, .int .u8 0, .int .u8 0, .int .u8 0, .int .u8 0, .int .u8 0, .int .u8 0, .int .u8 0, .int .u8 0, .int .u8 0, .int .u8 0, .int .u8 0, .int .u8 0, .int .u8 0, .int .u8 0, .int .u8 0, .int .u8 0, .int .u8 0, .int .u8 0, .int .u8 0, .int .u8 0, .int .u8 0, .int .u8 0, .int .u8 0, .int .u8 0, .int .u8 0, .int .u8 0, .int .u8 0, .int .u8 0, .int .u8 0, .int .u8 0, .int .u8 0, .int .u8 0, .int .u8 0, .int .u8 0, .int .u8 0, .int .u8 0, .int .u8 0, .int .u8 0, .int .u8 0, .int .u8 0, .int .u8 0, .int .u8 0, .int .u8 0, .int .u8 0, .int .u8 0, .int .u8 0, .int .u8 0, .int .u8 0, .int .u8 0, .int .u8 0, .int .u8 0, .int .u8 0, .int .u8 0, .int .u8 0, .int .u8 0, .int .u8 0, .int .u8 0, .int .u8 0, .int .u8 0, .int .u8 0, .int .u8 0, .int .u8 0, .int .u8 0, .int .u8 0, .int .u8 0, .int .u8 0, .int .u8 0, .int .u8 0, .int .u8 0, .int .u8 0, .int .u8 0, .int .u8 0, .int .u8 0, .int .u8 0, .int .u8 0, .int .u8 0, .int .u8 0, .int .u8 0, .int .u8 0, .int .u8 0, .int .u8 0, .int .u8 0, .int .u8 0, .int .u8 0, .int .u8 0, .int .u8 0, .int .u8 0, .int .u8 0, .int .u8 0, .int .u8 0, .int .u8 0, .int .u8 0, .int .u8 0, .int .u8 0, .int .u8 0, .int .u8 0, .int .u8 0, .int .u8 0, .int .u8 0, .int .u8 0, .int .u8 0, .int .u8 0, .int .u8 0, .int .u8 0, .int .u8 0, .int .u8 0, .int .u8 0, .int .u8 0, .int .u8 0, .int .u8 0, .int .u8 0, .int .u8 0, .int .u8 0, .int .u8 0, .int .u8 0, .int .u8 0, .int .u8 0, .int .u8 0, .int .u8 0, .int .u8 0, .int .u8 0, .int .u8 0, .int .u8 0, .int .u8 0, .int .u8 0, .int .u8 0, .int .u8 0, .int .u8 0, .int .u8 0, .int .u8 0, .int .u8 0, .int .u8 0, .int .u8 0, .int .u8 0, .int .u8 0, .int .u8 0, .int .u8 0, .int .u8 0, .int .u8 0, .int .u8 0, .int .u8 0, .int .u8 0, .int .u8 0, .int .u8 0, .int .u8 0, .int .u8 0, .int .i64 0]
theorem Z56_len : Z56.length = 257 := by kernel_rfl
theorem loopEq56 (x0 x3 : Value) (h : H) (Kn Kr : Value → H → Prop) : F56_1 x0 x3 h Kn Kr = (o_nilCheck x0 fun v20 => o_fieldAddr 1 v20 fun v21 => o_load false 1 v21 h fun v22 => o_range v22 h fun v23 h => sloop (S := Value × Value) (fun s h K => copyBody 224 Z56 s.1 s.2 h (fun a b h => K (a, b) h) (fun v h => Kr v h)) (x3, v23) h) := by kernel_rfl
noncomputable def s_copy56 (run : RunF) : CallF := fun g args eh n => bc (Nat.beq g 56) (match args with
  | [m] => (match run 33 (seqL (rest 1 (bodyOf Tryz.f56.body))) ⟨(XT.new 0).set 0 (.a m), eh, n, []⟩ with
    | some (.normal, s) => (match s.t.get 0, s.t.get 3 with
      | some (.a m), some (.a c) => (match s_copyPages 224 m c s.h s.n with
        | some (eh', n') => some (.a c, eh', n')
        | none => none)
      | _, _ => none)
    | _ => none)
  | _ => none) none
theorem C56_ok (run : RunF) (hR : RunOk Tryz.prog run) {F : H} {ρ : Ren} {n : Nat} {eh : EH} {m : XA} {r : XV × EH × Nat} {Kn Kr : Value → H → Prop} (t : T) (h : H) (hu : t 33 = undef) (hs : XSim F ρ n eh h) (hm : RA ρ m (t 0)) (he : s_copy56 run 56 [m] eh n = some r) (hk : ∀ v h', CPost F ρ r v h' → Kr v h') :
    Wp Tryz.prog 33 (rest 1 (bodyOf Tryz.f56.body)) (mkQ (fun t h => Kn (t 2) h) (fun t h => Kr (t 2) h) ke0) t h := by
  unfold s_copy56 at he
  rw [Nat.beq_refl, bc_true] at he
  simp only at he
  split at he
  rotate_left
  · cases he
  rename_i s hev
  split at he
  rotate_left
  · cases he
  rename_i m1 c1 hg0 hg3
  split at he
  rotate_left
  · cases he
  rename_i eh' n' hcp
  cases he
  refine seqReg hR hev (by kernel_rfl) ⟨hs, tr_one hm, by rw [hu]; exact .nil⟩ (by kernel_rfl) fun ρ' t' h' hle hs' => ?_
  obtain ⟨h1, h2, h3⟩ := hs'
  have k0 := h2 _ _ hg0
  have k3 := h2 _ _ hg3
  cases k0 with | a k0 => ?_
  cases k3 with | a k3 => ?_
  refine F56_1_ok Kn Kr t' h' ?_
  rw [loopEq56]
  exact copyPages_ok (E := 224) (Z := Z56) (Kr := fun v h => Kr v h) Z56_len h1 k0 k3 hcp fun ρ2 h2' hle2 hs2 => hk _ _ ⟨ρ2, Ren.le_trans hle hle2, hs2, .a (k3.mono hle2)⟩
theorem P56_ok (run : RunF) (hR : RunOk Tryz.prog run) : CallOk Tryz.prog (s_copy56 run) := by
  intro g args eh n r he F ρ h args' hs ha
  have he0 := he
  unfold s_copy56 at he
  cases hf : Nat.beq g 56
  · rw [hf] at he; cases he
  obtain rfl := Nat.eq_of_beq_eq_true hf
  rw [hf, bc_true] at he
  split at he
  rotate_left
  · cases he
  rename_i m
  cases ha with
  | cons h1 t =>
    cases t
    rename_i x0
    refine spec_wp mixed (fn := Tryz.f56) Tryz.func56 (c := bodyOf Tryz.f56.body) (rs := [2]) (N := 33) (Q1 := mkQ (retV [2] (CPost F ρ r)) (retV [2] (CPost F ρ r)) ke0) (by kernel_rfl) (by kernel_rfl) (by kernel_rfl) (by kernel_rfl) (by kernel_rfl) (Nat.le_of_ble_eq_true rfl) ?_ rfl
    refine awpTo_okF (K := fun t h => Wp Tryz.prog 33 (rest 1 (bodyOf Tryz.f56.body)) (mkQ (retV [2] (CPost F ρ r)) (retV [2] (CPost F ρ r)) ke0) t h) 1 (A := Wp Tryz.prog 33 (rest 1 (bodyOf Tryz.f56.body)) (mkQ (retV [2] (CPost F ρ r)) (retV [2] (CPost F ρ r)) ke0) (tset (tinit [x0]) 2 (.pointer none)) h) ?_ (by kernel_rfl) (fun t h H1 => H1) (by kernel_rfl)
    exact C56_ok run hR (Kn := CPost F ρ r) (Kr := CPost F ρ r) (tset (tinit [x0]) 2 (.pointer none)) h rfl hs h1 he0 (fun v h' hv => hv)
end Go.Proofs.YtjdhldfeflmneaaGreat

/-
  The executor over this program, with copies of maps and of memories.
-/
namespace Go.Proofs.YtjdhldfeflmneaaGreat
open Go.Proofs.YtjdhldfeflmneaaGreat.AM
noncomputable section
def SCm : CallF := orS SK (SC Tryz.prog (nthN masks))
theorem SCm_ok : CallOk Tryz.prog SCm := orS_ok SK_ok (SC_ok _)
def runK : RunF := kev Tryz.prog SCm (nthN masks) 1000
theorem runK_ok : RunOk Tryz.prog runK := by
  unfold runK
  rw [kev_eq]
  exact ev_ok mixed SCm_ok 1000
def SE : CallF := orS (s_copy55 runK) (orS (s_copy56 runK) SCm)
theorem SE_ok : CallOk Tryz.prog SE := orS_ok (P55_ok runK runK_ok) (orS_ok (P56_ok runK runK_ok) SCm_ok)
end
end Go.Proofs.YtjdhldfeflmneaaGreat

