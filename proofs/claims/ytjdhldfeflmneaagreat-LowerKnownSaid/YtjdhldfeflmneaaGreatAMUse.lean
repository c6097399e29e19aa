/-
  The abstract memory in use: what the primitives come to at values that are known.
-/
import Derived.Test.YtjdhldfeflmneaaGreatAMFuse
set_option linter.unusedSimpArgs false
set_option linter.unusedVariables false
namespace Go.Proofs.YtjdhldfeflmneaaGreat.AM

section
variable {P : Program}

theorem bin_of {op : BinOp} {t : TypeId} {x y v : Value} {K : Value → Prop} (h : (selfV x && selfV y && okEq P op t x y) = true) (hr : binOp op t x y = pure v) (hs : selfV v = true) : o_bin P op t x y K = K v := by
  unfold o_bin o_pure
  rw [h, hr]
  show (bif selfV v then K v else False) = K v
  rw [hs, cond_true]
theorem un_of {op : UnOp} {x v : Value} {K : Value → Prop} (h : selfV x = true) (hr : Op.unary op x = pure v) (hs : selfV v = true) : o_un P op x K = K v := by
  unfold o_un o_pure
  rw [h, hr]
  show (bif selfV v then K v else False) = K v
  rw [hs, cond_true]
theorem bin_eql {t : TypeId} {k : IntKind} {a b : Int} {K : Value → Prop} : o_bin P .eql t (.int k a) (.int k b) K = K (.bool (decide (a = b))) :=
  bin_of rfl (by simp [binOp, Op.intCmp]; rfl) rfl
theorem bin_neq {t : TypeId} {k : IntKind} {a b : Int} {K : Value → Prop} : o_bin P .neq t (.int k a) (.int k b) K = K (.bool (!decide (a = b))) :=
  bin_of rfl (by simp [binOp, Op.intCmp]; rfl) rfl
theorem bin_lss {t : TypeId} {k : IntKind} {a b : Int} {K : Value → Prop} : o_bin P .lss t (.int k a) (.int k b) K = K (.bool (decide (a < b))) :=
  bin_of rfl (by simp [binOp, Op.intCmp]) rfl
theorem bin_leq {t : TypeId} {k : IntKind} {a b : Int} {K : Value → Prop} : o_bin P .leq t (.int k a) (.int k b) K = K (.bool (decide (a ≤ b))) :=
  bin_of rfl (by simp [binOp, Op.intCmp]) rfl
theorem bin_gtr {t : TypeId} {k : IntKind} {a b : Int} {K : Value → Prop} : o_bin P .gtr t (.int k a) (.int k b) K = K (.bool (decide (b < a))) :=
  bin_of rfl (by simp [binOp, Op.intCmp]) rfl
theorem bin_geq {t : TypeId} {k : IntKind} {a b : Int} {K : Value → Prop} : o_bin P .geq t (.int k a) (.int k b) K = K (.bool (decide (b ≤ a))) :=
  bin_of rfl (by simp [binOp, Op.intCmp]) rfl
theorem bin_add {t : TypeId} {k : IntKind} {a b : Int} {K : Value → Prop} : o_bin P .add t (.int k a) (.int k b) K = K (.int k (k.wrap (a + b))) :=
  bin_of rfl (by simp [binOp, Op.intArith]) rfl
theorem bin_sub {t : TypeId} {k : IntKind} {a b : Int} {K : Value → Prop} : o_bin P .sub t (.int k a) (.int k b) K = K (.int k (k.wrap (a - b))) :=
  bin_of rfl (by simp [binOp, Op.intArith]) rfl
theorem bin_mul {t : TypeId} {k : IntKind} {a b : Int} {K : Value → Prop} : o_bin P .mul t (.int k a) (.int k b) K = K (.int k (k.wrap (a * b))) :=
  bin_of rfl (by simp [binOp, Op.intArith]) rfl
theorem bin_quo {t : TypeId} {k : IntKind} {a b : Int} {K : Value → Prop} (hb : b ≠ 0) : o_bin P .quo t (.int k a) (.int k b) K = K (.int k (k.wrap (a.tdiv b))) :=
  bin_of rfl (by simp [binOp, Op.intDiv, hb]) rfl
theorem bin_rem {t : TypeId} {k : IntKind} {a b : Int} {K : Value → Prop} (hb : b ≠ 0) : o_bin P .rem t (.int k a) (.int k b) K = K (.int k (a.tmod b)) :=
  bin_of rfl (by simp [binOp, Op.intDiv, hb]) rfl
theorem bin_and {t : TypeId} {k : IntKind} {a b : Int} {K : Value → Prop} : o_bin P .and t (.int k a) (.int k b) K = K (.int k (k.wrap (BitVec.ofInt k.bits a &&& BitVec.ofInt k.bits b).toNat)) :=
  bin_of rfl (by simp [binOp, Op.intBits]) rfl
theorem bin_or {t : TypeId} {k : IntKind} {a b : Int} {K : Value → Prop} : o_bin P .or t (.int k a) (.int k b) K = K (.int k (k.wrap (BitVec.ofInt k.bits a ||| BitVec.ofInt k.bits b).toNat)) :=
  bin_of rfl (by simp [binOp, Op.intBits]) rfl
theorem bin_xor {t : TypeId} {k : IntKind} {a b : Int} {K : Value → Prop} : o_bin P .xor t (.int k a) (.int k b) K = K (.int k (k.wrap (BitVec.ofInt k.bits a ^^^ BitVec.ofInt k.bits b).toNat)) :=
  bin_of rfl (by simp [binOp, Op.intBits]) rfl
theorem bin_andNot {t : TypeId} {k : IntKind} {a b : Int} {K : Value → Prop} : o_bin P .andNot t (.int k a) (.int k b) K = K (.int k (k.wrap (BitVec.ofInt k.bits a &&& ~~~(BitVec.ofInt k.bits b)).toNat)) :=
  bin_of rfl (by simp [binOp, Op.intBits]) rfl
theorem bin_shl {t : TypeId} {k k' : IntKind} {a b : Int} {K : Value → Prop} (hb : 0 ≤ b) : o_bin P .shl t (.int k a) (.int k' b) K = K (.int k (k.wrap (a * 2 ^ (min b.toNat k.bits)))) :=
  bin_of rfl (by simp [binOp, Op.shift, show ¬ b < 0 by omega]) rfl
theorem bin_shr {t : TypeId} {k k' : IntKind} {a b : Int} {K : Value → Prop} (hb : 0 ≤ b) : o_bin P .shr t (.int k a) (.int k' b) K = K (.int k (a.fdiv (2 ^ (min b.toNat k.bits)))) :=
  bin_of rfl (by simp [binOp, Op.shift, show ¬ b < 0 by omega]) rfl
theorem un_not {b : Bool} {K : Value → Prop} : o_un P .not (.bool b) K = K (.bool (!b)) := un_of rfl rfl rfl
theorem un_neg {k : IntKind} {n : Int} {K : Value → Prop} : o_un P .neg (.int k n) K = K (.int k (k.wrap (0 - n))) := un_of rfl rfl rfl
theorem if_bool {b : Bool} {A B : Prop} : o_if (.bool b) A B = if b = true then A else B := by cases b <;> rfl
theorem if_true' {A B : Prop} : o_if (.bool true) A B = A := rfl
theorem if_false' {A B : Prop} : o_if (.bool false) A B = B := rfl
theorem pick_bool {b : Bool} {x y : Value} {K : Value → Prop} : o_pick (.bool b) x y K = K (bif b then x else y) := rfl
theorem pick_true {x y : Value} {K : Value → Prop} : o_pick (.bool true) x y K = K x := rfl
theorem pick_false {x y : Value} {K : Value → Prop} : o_pick (.bool false) x y K = K y := rfl
theorem guard_tt {op : (Value → H → Prop) → Prop} {K : Value → H → Prop} {h : H} : o_guard (.bool true) true op K h = op K := rfl
theorem guard_ff {op : (Value → H → Prop) → Prop} {K : Value → H → Prop} {h : H} : o_guard (.bool false) false op K h = op K := rfl
theorem guard_tf {op : (Value → H → Prop) → Prop} {K : Value → H → Prop} {h : H} : o_guard (.bool true) false op K h = K undef h := rfl
theorem guard_ft {op : (Value → H → Prop) → Prop} {K : Value → H → Prop} {h : H} : o_guard (.bool false) true op K h = K undef h := rfl
theorem guard_u {w : Bool} {op : (Value → H → Prop) → Prop} {K : Value → H → Prop} {h : H} : o_guard undef w op K h = K undef h := rfl
theorem guard_val {b w : Bool} {x : Value} {C : Value → H → Prop} {h : H} : o_guard (.bool b) w (fun k => k x h) C h = C (bif b == w then x else undef) h := by
  show (bif b == w then C x h else C undef h) = _
  cases b == w <;> rfl
/-- 'x && y': y is looked at only where x holds. -/
def o_and (c : Value) (op : (Value → H → Prop) → Prop) (K : Value → H → Prop) (h : H) : Prop :=
  match c with
  | .bool b => bif b then op K else K (.bool false) h
  | _ => False
def o_or (c : Value) (op : (Value → H → Prop) → Prop) (K : Value → H → Prop) (h : H) : Prop :=
  match c with
  | .bool b => bif b then K (.bool true) h else op K
  | _ => False
theorem guard_and {a : Bool} {op : (Value → H → Prop) → Prop} {K : Value → H → Prop} {h : H} : o_guard (.bool a) true op (fun v h => o_pick (.bool a) v (.bool false) fun y => K y h) h = o_and (.bool a) op K h := by
  cases a <;> rfl
theorem guard_or {a : Bool} {op : (Value → H → Prop) → Prop} {K : Value → H → Prop} {h : H} : o_guard (.bool a) false op (fun v h => o_pick (.bool a) (.bool true) v fun y => K y h) h = o_or (.bool a) op K h := by
  cases a <;> rfl
theorem and_val {a b : Bool} {K : Value → H → Prop} {h : H} : o_and (.bool a) (fun k => k (.bool b) h) K h = K (.bool (a && b)) h := by cases a <;> rfl
theorem or_val {a b : Bool} {K : Value → H → Prop} {h : H} : o_or (.bool a) (fun k => k (.bool b) h) K h = K (.bool (a || b)) h := by cases a <;> rfl
theorem and_if {a b : Bool} {op : (Value → H → Prop) → Prop} {K : Value → H → Prop} {h : H} (hb : a = true → op K = K (.bool b) h) : o_and (.bool a) op K h = K (.bool (a && b)) h := by
  cases a
  · rfl
  · exact hb rfl
theorem or_if {a b : Bool} {op : (Value → H → Prop) → Prop} {K : Value → H → Prop} {h : H} (hb : a = false → op K = K (.bool b) h) : o_or (.bool a) op K h = K (.bool (a || b)) h := by
  cases a
  · exact hb rfl
  · rfl
theorem and_op {a b : Bool} {op : (Value → H → Prop) → Prop} {K : Value → H → Prop} {h : H} (hop : a = true → ∀ K : Value → H → Prop, K (.bool b) h → op K) (hk : K (.bool (a && b)) h) : o_and (.bool a) op K h := by
  cases a
  · exact hk
  · exact hop rfl K hk
theorem or_op {a b : Bool} {op : (Value → H → Prop) → Prop} {K : Value → H → Prop} {h : H} (hop : a = false → ∀ K : Value → H → Prop, K (.bool b) h → op K) (hk : K (.bool (a || b)) h) : o_or (.bool a) op K h := by
  cases a
  · exact hop rfl K hk
  · exact hk
theorem if_or {a b : Bool} {f : Value → H → Prop} {h : H} : o_if (.bool a) (f (.bool a) h) (f (.bool b) h) = f (.bool (a || b)) h := by cases a <;> rfl
theorem conv_int {k k' : IntKind} {n : Int} {K : Value → Prop} : o_conv k (.int k' n) K = K (.int k (k.wrap n)) := rfl
theorem len_sl {b : Option Addr} {n c : Nat} {K : Value → Prop} : o_lenSl (.slice b n c) K = K (.int .i64 n) := rfl
theorem extract_tuple {vs : Array Value} {i : Nat} {v : Value} {K : Value → Prop} (h : vs[i]? = some v) : o_extract (.tuple vs) i K = K v := by simp [o_extract, h]
theorem ex0 {a b : Value} {K : Value → Prop} : o_extract (.tuple #[a, b]) 0 K = K a := rfl
theorem ex1 {a b : Value} {K : Value → Prop} : o_extract (.tuple #[a, b]) 1 K = K b := rfl
theorem ex0' {a b c : Value} {K : Value → Prop} : o_extract (.tuple #[a, b, c]) 0 K = K a := rfl
theorem ex1' {a b c : Value} {K : Value → Prop} : o_extract (.tuple #[a, b, c]) 1 K = K b := rfl
theorem ex2' {a b c : Value} {K : Value → Prop} : o_extract (.tuple #[a, b, c]) 2 K = K c := rfl
theorem field_addr {off b o : Nat} {K : Value → Prop} : o_fieldAddr off (.pointer (some ⟨b, o, none⟩)) K = K (.pointer (some ⟨b, o + off, none⟩)) := rfl
theorem index_sl {size b o n c : Nat} {i : Int} {k : IntKind} {K : Value → Prop} (h0 : 0 ≤ i) (h1 : i < n) : o_indexAddr none size (.slice (some ⟨b, o, none⟩) n c) (.int k i) K = K (.pointer (some ⟨b, o + i.toNat * size, none⟩)) := by
  simp [o_indexAddr, h0, h1]
theorem index_arr {size b o n : Nat} {i : Int} {k : IntKind} {K : Value → Prop} (h0 : 0 ≤ i) (h1 : i < n) : o_indexAddr (some n) size (.pointer (some ⟨b, o, none⟩)) (.int k i) K = K (.pointer (some ⟨b, o + i.toNat * size, none⟩)) := by
  simp [o_indexAddr, h0, h1]
theorem load_cell {n b o : Nat} {h : H} {v : Value} {K : Value → Prop} (hc : cellAt h b o = some v) : o_load false n (.pointer (some ⟨b, o, none⟩)) h K = K v := by
  simp [o_load, hc]
theorem load_agg {n b o : Nat} {h : H} {l : List Value} {K : Value → Prop} (hc : cellsAt h b o n = some l) : o_load true n (.pointer (some ⟨b, o, none⟩)) h K = K (.agg l.toArray) := by
  simp [o_load, hc]
theorem store_ok {n b o : Nat} {h : H} {v : Value} {cs : List Value} {E : TypeId} {m : Own} {K : H → Prop} (hb : h b = some (.cells cs E m)) (hm : m ≠ .ro) (hv : boxV v = true) (hs : v.cells.size = n) (hl : o + n ≤ cs.length) :
    o_store n (.pointer (some ⟨b, o, none⟩)) v h K = K (upd h b (.cells (setL cs o v.cells.toList) E m)) := by
  simp [o_store, hb, hm, hv, hs, hl]
theorem load_upd {n b o : Nat} {h : H} {cs : List Value} {E : TypeId} {m : Own} {K : Value → Prop} : o_load false n (.pointer (some ⟨b, o, none⟩)) (upd h b (.cells cs E m)) K = (match cs[o]? with | some v => K v | none => False) := by
  have e : AM.cellAt (upd h b (.cells cs E m)) b o = cs[o]? := by simp [AM.cellAt, upd]
  show (match AM.cellAt (upd h b (.cells cs E m)) b o with | some v => K v | none => False) = _
  rw [e]
theorem load_upd_ne {ag : Bool} {n b c o : Nat} {h : H} {q : AObj} {K : Value → Prop} (hc : c ≠ b) : o_load ag n (.pointer (some ⟨c, o, none⟩)) (upd h b q) K = o_load ag n (.pointer (some ⟨c, o, none⟩)) h K := by
  simp [o_load, AM.cellAt, AM.cellsAt, upd, hc]
theorem load_aggU {n b : Nat} {h : H} {cs : List Value} {E : TypeId} {m : Own} {K : Value → Prop} (hn : cs.length = n) : o_load true n (.pointer (some ⟨b, 0, none⟩)) (upd h b (.cells cs E m)) K = K (.agg cs.toArray) := by
  subst hn
  simp [o_load, AM.cellsAt, upd]
theorem call_iff {f : FuncId} {args : List Value} {h : H} {K : Value → H → Prop} (ha : args.all boxV = true) : o_call P f args h K = Spec P f args h K := by
  simp [o_call, ha]

theorem bx_bool {b : Bool} : boxV (.bool b) = true := rfl
theorem bx_int {k : IntKind} {n : Int} : boxV (.int k n) = true := rfl
theorem bx_agg {a : Array Value} : boxV (.agg a) = true := rfl
theorem bx_sl {a : Option Addr} {n c : Nat} : boxV (.slice a n c) = true := rfl
theorem bx_ptr {a : Option Addr} : boxV (.pointer a) = true := rfl
theorem bx_map {a : Option Nat} : boxV (.map a) = true := rfl
theorem bx_str {s : ByteArray} : boxV (.string s) = true := rfl
theorem bx_func {f : Fn} {a b : Array Value} : boxV (.func f a b) = true := rfl
theorem wrap_id {k : IntKind} {n : Int} (h1 : k.min ≤ n) (h2 : n ≤ k.max) : k.wrap n = n := by
  cases k <;> simp [IntKind.min, IntKind.max, IntKind.wrap, IntKind.signed, IntKind.bits] at * <;> first | (split <;> omega) | omega
theorem wrap64 {n : Int} (h1 : -9223372036854775808 ≤ n) (h2 : n < 9223372036854775808) : IntKind.wrap .i64 n = n := by
  refine wrap_id ?_ ?_ <;> simp [IntKind.min, IntKind.max, IntKind.signed, IntKind.bits] <;> omega
theorem wrapu32 {n : Int} (h1 : 0 ≤ n) (h2 : n < 4294967296) : IntKind.wrap .u32 n = n := by
  refine wrap_id ?_ ?_ <;> simp [IntKind.min, IntKind.max, IntKind.signed, IntKind.bits] <;> omega

/-! ### One memory within another -/
def Sub (h h' : H) : Prop := ∀ b o, h b = some o → h' b = some o
theorem Sub.refl (h : H) : Sub h h := fun _ _ h => h
theorem Sub.trans {a b c : H} (h1 : Sub a b) (h2 : Sub b c) : Sub a c := fun x o h => h2 _ _ (h1 _ _ h)
theorem Sub.new {h : H} {b : Nat} {o : AObj} (hb : h b = Option.none) : Sub h (AM.upd h b o) := by
  intro c q hc
  have : c ≠ b := fun e => by rw [e, hb] at hc; cases hc
  rw [upd_ne _ _ this]; exact hc
theorem Sub.none {h h' : H} (hs : Sub h h') {b : Nat} (hb : h' b = none) : h b = none := by
  cases hq : h b with
  | none => rfl
  | some o => rw [hs _ _ hq] at hb; cases hb
theorem Sub.upd {h h' : H} (hs : Sub h h') {b : Nat} {o : AObj} (hb : h b = Option.none) : Sub h (upd h' b o) := by
  intro c q hc
  have : c ≠ b := fun e => by rw [e, hb] at hc; cases hc
  rw [upd_ne _ _ this]; exact hs _ _ hc
theorem Sub.cellsAt {h h' : H} (hs : Sub h h') {b o n : Nat} {l : List Value} (hc : cellsAt h b o n = some l) : cellsAt h' b o n = some l := by
  unfold AM.cellsAt at *
  cases hq : h b with
  | none => rw [hq] at hc; cases hc
  | some q => rw [hs _ _ hq]; rw [hq] at hc; exact hc
theorem Sub.cellAt {h h' : H} (hs : Sub h h') {b o : Nat} {v : Value} (hc : cellAt h b o = some v) : cellAt h' b o = some v := by
  unfold AM.cellAt at *
  cases hq : h b with
  | none => rw [hq] at hc; cases hc
  | some q => rw [hs _ _ hq]; rw [hq] at hc; exact hc
/-- What a function leaves behind besides may be forgotten. -/
theorem Spec.forget {f : FuncId} {args : List Value} {h : H} {Q : Value → H → Prop} (hs : Spec P f args h fun v h' => ∃ h'', Sub h'' h' ∧ Q v h'') : Spec P f args h Q := Spec.drop hs

theorem spec_ret {f : FuncId} {args : List Value} {h : H} {v : Value} (hs : ∀ Q' : Value → H → Prop, (∀ h', Sub h h' → Q' v h') → Spec P f args h Q') {Q : Value → H → Prop} (hq : Q v h) : Spec P f args h Q :=
  Spec.forget (hs _ fun _ hs => ⟨h, hs, hq⟩)
theorem cellAt_of {h : H} {b o : Nat} {cs : List Value} {E : TypeId} {m : Own} (hb : h b = some (.cells cs E m)) : cellAt h b o = cs[o]? := by simp [AM.cellAt, hb]
theorem cellsAt_of {h : H} {b o n : Nat} {cs : List Value} {E : TypeId} {m : Own} (hb : h b = some (.cells cs E m)) (hl : o + n ≤ cs.length) : cellsAt h b o n = some ((cs.drop o).take n) := by simp [AM.cellsAt, hb, hl]
theorem setL_length : ∀ (vs cs : List Value) (o : Nat), (setL cs o vs).length = cs.length
  | [], _, _ => rfl
  | v :: vs, cs, o => by rw [setL, setL_length vs]; simp
end
end Go.Proofs.YtjdhldfeflmneaaGreat.AM
