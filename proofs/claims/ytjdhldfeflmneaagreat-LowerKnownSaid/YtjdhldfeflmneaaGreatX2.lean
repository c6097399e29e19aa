/-
  The executor's operations, and that they are told by the abstract memory's: those that make and read values and cells.
-/
import Derived.Test.YtjdhldfeflmneaaGreatX1
set_option linter.unusedSimpArgs false
set_option linter.unusedVariables false
namespace Go.Proofs.YtjdhldfeflmneaaGreat.AM
noncomputable section

/-! ### Values that stand for themselves -/
theorem RS.self_eq {ρ : Ren} {v w : Value} (h : RS ρ v w) (hv : selfC v = true) : w = v := by
  cases h with
  | self h => rfl
  | ptr h => simp [selfC] at hv
  | slice h => simp [selfC] at hv
  | map h => simp [selfC] at hv
theorem RS.selfC_eq {ρ : Ren} {v w : Value} (h : RS ρ v w) : selfC w = selfC v := by
  cases h <;> simp [selfC]
theorem all2_nil_r {α β : Type} {R : α → β → Prop} {l : List α} {m : List β} (h : All2 R l m) (hl : l = []) : m = [] := by
  subst hl; cases h; rfl
theorem arr_nil {α : Type} {a : Array α} (h : a.toList = []) : a = #[] := by
  cases a; simp at h; simp [h]
theorem RC.self_eq {ρ : Ren} {v w : Value} (h : RC ρ v w) (hv : selfC v = true) : w = v := by
  cases h with
  | s h => exact h.self_eq hv
  | func f h k =>
    rename_i xs ys xs' ys'
    simp [selfC] at hv
    have h1 : xs = #[] := by simpa using hv.1
    have h2 : ys = #[] := by simpa using hv.2
    subst h1; subst h2
    rw [arr_nil (all2_nil_r h rfl), arr_nil (all2_nil_r k rfl)]
  | yield h => simp [selfC] at hv
  | iface t h => simp [selfC] at hv
theorem RC.selfC_eq {ρ : Ren} {v w : Value} (h : RC ρ v w) : selfC w = selfC v := by
  cases h with
  | s h => exact h.selfC_eq
  | func f h k =>
    rename_i xs ys xs' ys'
    have h1 := h.length
    have h2 := k.length
    simp only [Array.length_toList] at h1 h2
    simp [selfC, h1, h2]
  | yield h => rfl
  | iface t h => rfl
theorem RC.of_self {ρ : Ren} {v : Value} (h : selfC v = true) : RC ρ v v := .s (.self h)
theorem RC.cellV {ρ : Ren} {v w : Value} (h : RC ρ v w) : cellV w = true := by
  cases h with
  | s h => cases h with
    | self h => cases v <;> first | rfl | simp [selfC] at h
    | ptr => rfl
    | slice => rfl
    | map => rfl
  | func => rfl
  | yield => rfl
  | iface => rfl
theorem boxV_of_cell {w : Value} (h : AM.cellV w = true) : boxV w = true := by cases w <;> first | rfl | cases h
theorem cells_of_cell {w : Value} (h : AM.cellV w = true) : w.cells = #[w] := by cases w <;> first | rfl | cases h
theorem RA.boxV {ρ : Ren} {x : XA} {w : Value} (h : RA ρ x w) : boxV w = true := by
  cases h with
  | c h => exact boxV_of_cell h.cellV
  | agg h => rfl
def XA.cellsR : XA → R
  | .c v => .one v
  | .agg r => r
theorem RA.cells {ρ : Ren} {x : XA} {w : Value} (h : RA ρ x w) : All2 (RC ρ) x.cellsR.toL w.cells.toList := by
  cases h with
  | c h => rw [cells_of_cell h.cellV]; exact .cons h .nil
  | agg h => exact h
def XA.toV : XA → Value
  | .c v => v
  | .agg r => .agg r.toL.toArray
def XA.self : XA → Bool
  | .c v => selfC v
  | .agg r => r.toL.all selfC
theorem all2_self {ρ : Ren} : ∀ {l m : List Value}, All2 (RC ρ) l m → l.all selfC = true → m = l
  | _, _, .nil, _ => rfl
  | _, _, .cons h t, ha => by
    simp only [List.all_cons, Bool.and_eq_true] at ha
    rw [h.self_eq ha.1, all2_self t ha.2]
theorem all2_selfC {ρ : Ren} : ∀ {l m : List Value}, All2 (RC ρ) l m → m.all selfC = l.all selfC
  | _, _, .nil => rfl
  | _, _, .cons h t => by simp only [List.all_cons, h.selfC_eq, all2_selfC t]
theorem RA.self_eq {ρ : Ren} {x : XA} {w : Value} (h : RA ρ x w) (hs : x.self = true) : w = x.toV := by
  cases h with
  | c h => exact h.self_eq hs
  | agg h =>
    rename_i r cs
    have := all2_self h hs
    show Value.agg cs = .agg r.toL.toArray
    rw [← this]
theorem selfA_cell {v : Value} (h : AM.cellV v = true) : selfA v = selfC v := by cases v <;> first | rfl | cases h
theorem selfV_box {v : Value} (h : AM.boxV v = true) : selfV v = selfA v := by cases v <;> first | rfl | cases h
theorem RA.selfV_eq {ρ : Ren} {x : XA} {w : Value} (h : RA ρ x w) : selfV w = x.self := by
  rw [selfV_box h.boxV]
  cases h with
  | c h => rw [selfA_cell h.cellV, h.selfC_eq]; rfl
  | agg h => exact all2_selfC h
/-- A value without addresses, as the executor has it. -/
def XA.ofV : Value → XA
  | .agg cs => .agg (R.ofL cs.toList)
  | v => .c v
theorem RA.ofV {ρ : Ren} {v : Value} (h : selfA v = true) : RA ρ (XA.ofV v) v := by
  unfold XA.ofV
  split
  · refine .agg ?_
    rw [R.ofL_toL]
    exact All2.refl_of fun a ha => .of_self (List.all_eq_true.1 h a ha)
  · rename_i hn
    refine .c (.of_self ?_)
    rw [selfA_cell] at h
    · exact h
    · cases v <;> first | rfl | exact absurd rfl (hn _) | simp [selfA, selfC] at h
def XV.ofV : Value → XV
  | .tuple vs => .tup (vs.toList.map XA.ofV)
  | v => .a (XA.ofV v)
theorem RV.ofV {ρ : Ren} {v : Value} (h : selfV v = true) : RV ρ (XV.ofV v) v := by
  unfold XV.ofV
  split
  · rename_i vs
    refine .tup ?_
    have ha : vs.toList.all selfA = true := h
    revert ha
    generalize vs.toList = l
    intro ha
    induction l with
    | nil => exact .nil
    | cons a l ih =>
      simp only [List.all_cons, Bool.and_eq_true] at ha
      exact .cons (RA.ofV ha.1) (ih ha.2)
  · rename_i hn
    refine .a (RA.ofV ?_)
    rw [selfV_box] at h
    · exact h
    · cases v <;> first | rfl | exact absurd rfl (hn _)

/-! ### Numbers -/
def limK : IntKind → Nat
  | .i8 => 128 | .i16 => 32768 | .i32 => 2147483648 | .i64 => 9223372036854775808
  | .u8 => 256 | .u16 => 65536 | .u32 => 4294967296 | .u64 => 18446744073709551616
def wrapF (k : IntKind) (n : Int) : Int :=
  match n with
  | .ofNat m => bif Nat.blt m (limK k) then .ofNat m else .ofNat 0 + k.wrap (.ofNat m)
  | .negSucc m => k.wrap (.negSucc m)
theorem wrapF_eq (k : IntKind) (n : Int) : wrapF k n = k.wrap n := by
  unfold wrapF
  split
  · rename_i m
    cases hb : Nat.blt m (limK k)
    · simp
    · have := blt_iff.1 hb
      rw [cond_true]
      symm
      refine wrap_id ?_ ?_ <;> cases k <;> simp [IntKind.min, IntKind.max, IntKind.signed, IntKind.bits, limK] at * <;> omega
  · rfl
def ieq : Int → Int → Bool
  | .ofNat m, .ofNat n => Nat.beq m n
  | .negSucc m, .negSucc n => Nat.beq m n
  | _, _ => false
theorem ieq_eq (a b : Int) : ieq a b = decide (a = b) := by
  cases a <;> cases b <;> simp [ieq]
  · rename_i m n
    by_cases h : m = n
    · simp [h]
    · have : Nat.beq m n = false := Bool.eq_false_iff.2 fun e => h (Nat.eq_of_beq_eq_true e)
      rw [this]; symm; simp; omega
  · rename_i m n
    by_cases h : m = n
    · simp [h]
    · have : Nat.beq m n = false := Bool.eq_false_iff.2 fun e => h (Nat.eq_of_beq_eq_true e)
      rw [this]; symm; simp [h]
def ilt : Int → Int → Bool
  | .ofNat m, .ofNat n => Nat.blt m n
  | .negSucc m, .negSucc n => Nat.blt n m
  | .negSucc _, .ofNat _ => true
  | .ofNat _, .negSucc _ => false
theorem ilt_eq (a b : Int) : ilt a b = decide (a < b) := by
  cases a <;> cases b <;> simp only [ilt]
  · rename_i m n
    cases h : Nat.blt m n
    · have := blt_false.1 h; symm; simp; omega
    · have := blt_iff.1 h; symm; simp; omega
  · symm; simp; omega
  · symm; simp; omega
  · rename_i m n
    cases h : Nat.blt n m
    · have := blt_false.1 h; symm; simp; omega
    · have := blt_iff.1 h; symm; simp; omega
def fastInt (op : BinOp) (k : IntKind) (a b : Int) : Option Value :=
  match op with
  | .add => some (.int k (wrapF k (a + b)))
  | .sub => some (.int k (wrapF k (a - b)))
  | .mul => some (.int k (wrapF k (a * b)))
  | .eql => some (.bool (ieq a b))
  | .neq => some (.bool (!ieq a b))
  | .lss => some (.bool (ilt a b))
  | .gtr => some (.bool (ilt b a))
  | .leq => some (.bool (!ilt b a))
  | .geq => some (.bool (!ilt a b))
  | _ => none
theorem fastInt_ok {P : Program} {op : BinOp} {t : TypeId} {k : IntKind} {a b : Int} {v : Value} {K : Value → Prop} (h : fastInt op k a b = some v) (hk : K v) : selfC v = true ∧ o_bin P op t (.int k a) (.int k b) K := by
  unfold fastInt at h
  split at h <;> (try (cases h; done)) <;> cases h
  · rw [bin_add, ← wrapF_eq]; exact ⟨rfl, hk⟩
  · rw [bin_sub, ← wrapF_eq]; exact ⟨rfl, hk⟩
  · rw [bin_mul, ← wrapF_eq]; exact ⟨rfl, hk⟩
  · rw [bin_eql, ← ieq_eq]; exact ⟨rfl, hk⟩
  · rw [bin_neq, ← ieq_eq]; exact ⟨rfl, hk⟩
  · rw [bin_lss, ← ilt_eq]; exact ⟨rfl, hk⟩
  · rw [bin_gtr, ← ilt_eq]; exact ⟨rfl, hk⟩
  · rw [bin_leq, show decide (a ≤ b) = !decide (b < a) by by_cases h : a ≤ b <;> simp [h] <;> omega, ← ilt_eq]; exact ⟨rfl, hk⟩
  · rw [bin_geq, show decide (b ≤ a) = !decide (a < b) by by_cases h : b ≤ a <;> simp [h] <;> omega, ← ilt_eq]; exact ⟨rfl, hk⟩

/-- What an operation of the executor comes to. -/
abbrev Res := Option (XV × EH × Nat)
def Good (F : H) (ρ : Ren) (r : XV × EH × Nat) (K : Value → H → Prop) : Prop := ∀ ρ' v' h', ρ.le ρ' → XSim F ρ' r.2.2 r.2.1 h' → RV ρ' r.1 v' → K v' h'
theorem Good.here {F : H} {ρ : Ren} {x : XV} {eh : EH} {n : Nat} {h : H} {K : Value → H → Prop} {v : Value} (hk : Good F ρ (x, eh, n) K) (hs : XSim F ρ n eh h) (hv : RV ρ x v) : K v h := hk ρ v h (Ren.le_refl ρ) hs hv

section
variable {P : Program} {F : H} {ρ : Ren} {n : Nat} {eh : EH} {h : H}

def e_pureV (r : Option Value) : Option XV :=
  match r with
  | some v => bif selfV v then some (XV.ofV v) else none
  | none => none
theorem e_pureV_ok {r : Option Value} {x : XV} {K : Value → Prop} (he : e_pureV r = some x) (hk : ∀ v, RV ρ x v → K v) : o_pure r K := by
  unfold e_pureV at he
  cases r with
  | none => cases he
  | some v =>
    cases hs : selfV v <;> simp only [hs, cond_true, cond_false] at he
    · cases he
    · cases he
      show (bif selfV v then K v else False)
      rw [hs]
      exact hk _ (RV.ofV hs)
def e_binG (P : Program) (op : BinOp) (xt : TypeId) (x y : XA) : Option XV :=
  bif x.self && y.self && okEq P op xt x.toV y.toV then e_pureV (pureRun P (binOp op xt x.toV y.toV)) else
  match op, P.underlying xt, x, y with
  | .eql, some (.pointer _), .c (.pointer a), .c (.pointer none) | .eql, some (.slice _), .c (.slice a _ _), .c (.slice none _ _) | .eql, some (.map _ _), .c (.map a), .c (.map none) => some (.a (.c (.bool a.isNone)))
  | .neq, some (.pointer _), .c (.pointer a), .c (.pointer none) | .neq, some (.slice _), .c (.slice a _ _), .c (.slice none _ _) | .neq, some (.map _ _), .c (.map a), .c (.map none) => some (.a (.c (.bool (!a.isNone))))
  | .eql, some (.func _ _ _), .c (.func _ _ _), .c .nilFunc => some (.a (.c (.bool false)))
  | .neq, some (.func _ _ _), .c (.func _ _ _), .c .nilFunc => some (.a (.c (.bool true)))
  | _, _, _, _ => none
def e_bin (P : Program) (op : BinOp) (xt : TypeId) (x y : XA) : Option XV :=
  match x, y with
  | .c (.int k a), .c (.int k' b) =>
    bif k == k' then (match fastInt op k a b with
      | some v => some (.a (.c v))
      | none => e_binG P op xt x y) else e_binG P op xt x y
  | _, _ => e_binG P op xt x y
theorem bool_rv (b : Bool) : RV ρ (.a (.c (.bool b))) (.bool b) := .a (.c (.of_self rfl))
theorem RS.pointer {a : Option Addr} {w : Value} (h : RS ρ (.pointer a) w) : ∃ a', w = .pointer a' ∧ a'.isNone = a.isNone := by
  cases h with
  | self h => exact ⟨_, rfl, rfl⟩
  | ptr h => exact ⟨_, rfl, rfl⟩
theorem RS.slice' {a : Option Addr} {p q : Nat} {w : Value} (h : RS ρ (.slice a p q) w) : ∃ a', w = .slice a' p q ∧ a'.isNone = a.isNone := by
  cases h with
  | self h => exact ⟨_, rfl, rfl⟩
  | slice h => exact ⟨_, rfl, rfl⟩
theorem RS.map' {a : Option Nat} {w : Value} (h : RS ρ (.map a) w) : ∃ a', w = .map a' ∧ a'.isNone = a.isNone := by
  cases h with
  | self h => exact ⟨_, rfl, rfl⟩
  | map h => exact ⟨_, rfl, rfl⟩
theorem RC.toS {v w : Value} (h : RC ρ v w) (hv : (match v with | .func _ _ _ | .iface _ _ => false | _ => true) = true) : RS ρ v w := by
  cases h with
  | s h => exact h
  | func => simp at hv
  | yield => simp at hv
  | iface => simp at hv
theorem RA.toC {v w : Value} (h : RA ρ (.c v) w) : RC ρ v w := by cases h; assumption
theorem RC.func' {f : Fn} {a b : Array Value} {w : Value} (h : RC ρ (.func f a b) w) : ∃ f' a' b', w = .func f' a' b' := by
  cases h with
  | s h => cases h; exact ⟨_, _, _, rfl⟩
  | func => exact ⟨_, _, _, rfl⟩
  | yield => exact ⟨_, _, _, rfl⟩
theorem okEq_self {op : BinOp} {xt : TypeId} {x y : XA} {v w : Value} (hv : RA ρ x v) (hw : RA ρ y w) (hs : (selfV v && selfV w && okEq P op xt v w) = true) : (x.self && y.self && okEq P op xt x.toV y.toV) = true := by
  simp only [Bool.and_eq_true] at hs
  rw [hv.selfV_eq, hw.selfV_eq] at hs
  rw [← hv.self_eq hs.1.1, ← hw.self_eq hs.1.2, hs.1.1, hs.1.2, hs.2]; rfl
theorem okEq_self' {op : BinOp} {xt : TypeId} {x y : XA} {v w : Value} (hv : RA ρ x v) (hw : RA ρ y w) (hs : (x.self && y.self && okEq P op xt x.toV y.toV) = true) : (selfV v && selfV w && okEq P op xt v w) = true ∧ v = x.toV ∧ w = y.toV := by
  simp only [Bool.and_eq_true] at hs
  have h1 := hv.self_eq hs.1.1
  have h2 := hw.self_eq hs.1.2
  refine ⟨?_, h1, h2⟩
  rw [hv.selfV_eq, hw.selfV_eq, h1, h2, hs.1.1, hs.1.2, hs.2]; rfl
theorem e_binG_ok {op : BinOp} {xt : TypeId} {x y : XA} {v w : Value} {r : XV} {K : Value → Prop} (hv : RA ρ x v) (hw : RA ρ y w) (he : e_binG P op xt x y = some r) (hk : ∀ u, RV ρ r u → K u) : o_bin P op xt v w K := by
  unfold e_binG at he
  cases hs : (x.self && y.self && okEq P op xt x.toV y.toV)
  · have hs' : (selfV v && selfV w && okEq P op xt v w) = false := Bool.eq_false_iff.2 fun e => by rw [okEq_self hv hw e] at hs; cases hs
    rw [hs, cond_false] at he
    unfold o_bin
    rw [hs', cond_false]
    split at he <;> (try (cases he; done)) <;> cases he <;> rename_i hu
    · obtain ⟨a', rfl, e⟩ := (hv.toC.toS rfl).pointer; obtain rfl := hw.toC.self_eq rfl
      simp only [hu]; exact hk _ (e ▸ bool_rv _)
    · obtain ⟨a', rfl, e⟩ := (hv.toC.toS rfl).slice'; obtain ⟨b', rfl, e'⟩ := (hw.toC.toS rfl).slice'
      cases b' with
      | none => simp only [hu]; exact hk _ (e ▸ bool_rv _)
      | some b' => cases e'
    · obtain ⟨a', rfl, e⟩ := (hv.toC.toS rfl).map'; obtain rfl := hw.toC.self_eq rfl
      simp only [hu]; exact hk _ (e ▸ bool_rv _)
    · obtain ⟨a', rfl, e⟩ := (hv.toC.toS rfl).pointer; obtain rfl := hw.toC.self_eq rfl
      simp only [hu]; exact hk _ (e ▸ bool_rv _)
    · obtain ⟨a', rfl, e⟩ := (hv.toC.toS rfl).slice'; obtain ⟨b', rfl, e'⟩ := (hw.toC.toS rfl).slice'
      cases b' with
      | none => simp only [hu]; exact hk _ (e ▸ bool_rv _)
      | some b' => cases e'
    · obtain ⟨a', rfl, e⟩ := (hv.toC.toS rfl).map'; obtain rfl := hw.toC.self_eq rfl
      simp only [hu]; exact hk _ (e ▸ bool_rv _)
    · obtain ⟨f, a, b, rfl⟩ := hv.toC.func'; obtain rfl := hw.toC.self_eq rfl
      simp only [hu]; exact hk _ (bool_rv _)
    · obtain ⟨f, a, b, rfl⟩ := hv.toC.func'; obtain rfl := hw.toC.self_eq rfl
      simp only [hu]; exact hk _ (bool_rv _)
  · rw [hs, cond_true] at he
    obtain ⟨h1, rfl, rfl⟩ := okEq_self' hv hw hs
    unfold o_bin
    rw [h1, cond_true]
    exact e_pureV_ok he hk
theorem e_bin_ok {op : BinOp} {xt : TypeId} {x y : XA} {v w : Value} {r : XV} {K : Value → Prop} (hv : RA ρ x v) (hw : RA ρ y w) (he : e_bin P op xt x y = some r) (hk : ∀ u, RV ρ r u → K u) : o_bin P op xt v w K := by
  unfold e_bin at he
  split at he
  · rename_i k a k' b
    cases hkk : k == k'
    · rw [hkk, cond_false] at he; exact e_binG_ok hv hw he hk
    · rw [hkk, cond_true] at he
      have := eq_of_beq hkk
      subst this
      split at he
      · rename_i u hu
        cases he
        obtain rfl := hv.toC.self_eq rfl
        obtain rfl := hw.toC.self_eq rfl
        exact (fastInt_ok (P := P) (t := xt) (K := fun u => selfC u = true → K u) hu fun hsu => hk _ (.a (.c (.of_self hsu)))).2 |> fun ho => o_bin_mono (fun _ h => h) (by
          have h2 := fastInt_ok (P := P) (t := xt) (K := K) hu (hk _ (.a (.c (.of_self (fastInt_ok (P := P) (t := xt) (K := fun _ => True) hu trivial).1))))
          exact h2.2)
      · exact e_binG_ok hv hw he hk
  · exact e_binG_ok hv hw he hk
def e_un (P : Program) (op : UnOp) (x : XA) : Option XV :=
  match op, x with
  | .not, .c (.bool b) => some (.a (.c (.bool (!b))))
  | _, _ => bif x.self then e_pureV (pureRun P (Op.unary op x.toV)) else none
theorem e_un_ok {op : UnOp} {x : XA} {v : Value} {r : XV} {K : Value → Prop} (hv : RA ρ x v) (he : e_un P op x = some r) (hk : ∀ u, RV ρ r u → K u) : o_un P op v K := by
  unfold e_un at he
  split at he
  · cases he
    obtain rfl := hv.toC.self_eq rfl
    rw [un_not]; exact hk _ (bool_rv _)
  · cases hs : x.self
    · rw [hs, cond_false] at he; cases he
    · rw [hs, cond_true] at he
      have h1 := hv.self_eq hs
      subst h1
      unfold o_un
      rw [hv.selfV_eq, hs, cond_true]
      exact e_pureV_ok he hk
def e_minmax (P : Program) (f : Value → Value → Sem Value) (x y : XA) : Option XV :=
  bif x.self && y.self then e_pureV (pureRun P (f x.toV y.toV)) else none
theorem e_minmax_ok {f : Value → Value → Sem Value} {x y : XA} {v w : Value} {r : XV} {K : Value → Prop} (hv : RA ρ x v) (hw : RA ρ y w) (he : e_minmax P f x y = some r) (hk : ∀ u, RV ρ r u → K u) : o_minmax P f v w K := by
  unfold e_minmax at he
  cases hs : (x.self && y.self)
  · rw [hs, cond_false] at he; cases he
  · rw [hs, cond_true] at he
    have hs' := Bool.and_eq_true _ _ ▸ hs
    have h1 := hv.self_eq hs'.1
    have h2 := hw.self_eq hs'.2
    subst h1; subst h2
    unfold o_minmax
    rw [hv.selfV_eq, hw.selfV_eq, hs, cond_true]
    exact e_pureV_ok he hk
def e_conv (k : IntKind) (x : XA) : Option XV :=
  match x with
  | .c (.int _ m) => some (.a (.c (.int k (wrapF k m))))
  | _ => none
theorem e_conv_ok {k : IntKind} {x : XA} {v : Value} {r : XV} {K : Value → Prop} (hv : RA ρ x v) (he : e_conv k x = some r) (hk : ∀ u, RV ρ r u → K u) : o_conv k v K := by
  unfold e_conv at he
  split at he <;> cases he
  obtain rfl := hv.toC.self_eq rfl
  rw [conv_int, ← wrapF_eq]; exact hk _ (.a (.c (.of_self rfl)))
def e_convStr (x : XA) : Option XV :=
  match x with
  | .c (.string s) => some (.a (.c (.string s)))
  | _ => none
theorem e_convStr_ok {x : XA} {v : Value} {r : XV} {K : Value → Prop} (hv : RA ρ x v) (he : e_convStr x = some r) (hk : ∀ u, RV ρ r u → K u) : o_convStr v K := by
  unfold e_convStr at he
  split at he <;> cases he
  obtain rfl := hv.toC.self_eq rfl
  exact hk _ (.a (.c (.of_self rfl)))

/-! ### Addresses -/
theorem RC.ptr {b o : Nat} {w : Value} (h : RC ρ (.pointer (some ⟨b, o, none⟩)) w) : ∃ b' t, ρ b = some (b', t) ∧ w = .pointer (some ⟨b', o, none⟩) := by
  cases h with
  | s h => cases h with
    | self h => simp [selfC] at h
    | ptr h => exact ⟨_, _, h, rfl⟩
theorem RC.sl {b o p q : Nat} {w : Value} (h : RC ρ (.slice (some ⟨b, o, none⟩) p q) w) : ∃ b' t, ρ b = some (b', t) ∧ w = .slice (some ⟨b', o, none⟩) p q := by
  cases h with
  | s h => cases h with
    | self h => simp [selfC] at h
    | slice h => exact ⟨_, _, h, rfl⟩
theorem RC.mp {b : Nat} {w : Value} (h : RC ρ (.map (some b)) w) : ∃ b' t, ρ b = some (b', t) ∧ w = .map (some b') := by
  cases h with
  | s h => cases h with
    | self h => simp [selfC] at h
    | map h => exact ⟨_, _, h, rfl⟩
theorem XSim.cells {b b' : Nat} {t : LObj} {r : R} {E : TypeId} {m : Own} (hs : XSim F ρ n eh h) (hg : eh.get b = some (.cells r E m)) (hb : ρ b = some (b', t)) : ∃ cs, h b' = some (.cells cs E m) ∧ All2 (RC ρ) r.toL cs := by
  obtain ⟨c, τ, o', h1, h2, h3⟩ := hs.obj b _ hg rfl
  rw [hb] at h1; cases h1
  cases h3 with
  | cells h3 => exact ⟨_, h2, h3⟩
def e_nilCheck (x : XA) : Option XV :=
  match x with
  | .c (.pointer (some a)) => some (.a (.c (.pointer (some a))))
  | .c (.func (.func f) a c) => some (.a (.c (.func (.func f) a c)))
  | .c (.func (.yield f) a c) => some (.a (.c (.func (.yield f) a c)))
  | _ => none
theorem e_nilCheck_ok {x : XA} {v : Value} {r : XV} {K : Value → Prop} (hv : RA ρ x v) (he : e_nilCheck x = some r) (hk : ∀ u, RV ρ r u → K u) : o_nilCheck v K := by
  unfold e_nilCheck at he
  split at he <;> cases he
  · obtain ⟨a', rfl, e⟩ := (hv.toC.toS rfl).pointer
    cases a' with
    | none => cases e
    | some a' => exact hk _ (.a hv)
  · have := hv.toC
    cases this with
    | s h => cases h with | self h => exact hk _ (.a hv)
    | func => exact hk _ (.a hv)
  · have := hv.toC
    cases this with
    | s h => cases h with | self h => simp [selfC] at h
    | yield => exact hk _ (.a hv)
def e_fieldAddr (off : Nat) (x : XA) : Option XV :=
  match x with
  | .c (.pointer (some ⟨b, o, none⟩)) => some (.a (.c (.pointer (some ⟨b, o + off, none⟩))))
  | _ => none
theorem e_fieldAddr_ok {off : Nat} {x : XA} {v : Value} {r : XV} {K : Value → Prop} (hv : RA ρ x v) (he : e_fieldAddr off x = some r) (hk : ∀ u, RV ρ r u → K u) : o_fieldAddr off v K := by
  unfold e_fieldAddr at he
  split at he <;> cases he
  obtain ⟨b', t, hb, rfl⟩ := hv.toC.ptr
  exact hk _ (.a (.c (.s (.ptr hb))))
def e_indexAddr (len : Option Nat) (size : Nat) (x i : XA) : Option XV :=
  match i, len, x with
  | .c (.int _ (.ofNat i)), none, .c (.slice (some ⟨b, o, none⟩) m _) => bif Nat.blt i m then some (.a (.c (.pointer (some ⟨b, o + i * size, none⟩)))) else none
  | .c (.int _ (.ofNat i)), some m, .c (.pointer (some ⟨b, o, none⟩)) => bif Nat.blt i m then some (.a (.c (.pointer (some ⟨b, o + i * size, none⟩)))) else none
  | _, _, _ => none
theorem e_indexAddr_ok {len : Option Nat} {size : Nat} {x i : XA} {v w : Value} {r : XV} {K : Value → Prop} (hv : RA ρ x v) (hw : RA ρ i w) (he : e_indexAddr len size x i = some r) (hk : ∀ u, RV ρ r u → K u) : o_indexAddr len size v w K := by
  unfold e_indexAddr at he
  split at he
  · rename_i k i b o m c
    cases hb : Nat.blt i m
    · rw [hb] at he; cases he
    · rw [hb] at he; cases he
      have := blt_iff.1 hb
      obtain rfl := hw.toC.self_eq rfl
      obtain ⟨b', t, hb, rfl⟩ := hv.toC.sl
      refine ⟨by simp, by simp; exact this, ?_⟩
      exact hk _ (.a (.c (.s (.ptr hb))))
  · rename_i k i m b o
    cases hb : Nat.blt i m
    · rw [hb] at he; cases he
    · rw [hb] at he; cases he
      have := blt_iff.1 hb
      obtain rfl := hw.toC.self_eq rfl
      obtain ⟨b', t, hb, rfl⟩ := hv.toC.ptr
      refine ⟨by simp, by simp; exact this, ?_⟩
      exact hk _ (.a (.c (.s (.ptr hb))))
  · cases he
def partR (ag : Bool) (k off : Nat) (r : R) : Option XV :=
  bif ag then (bif Nat.ble (off + k) r.size then some (.a (.agg ((r.drop off).take k))) else none) else (match r.get off with | some v => some (.a (.c v)) | none => none)
theorem partR_ok {ag : Bool} {k off : Nat} {r : R} {cs : Array Value} {x : XV} (hr : All2 (RC ρ) r.toL cs.toList) (he : partR ag k off r = some x) : ∃ v, partOf ag k off cs = some v ∧ RV ρ x v := by
  unfold partR at he
  unfold partOf
  cases ag
  · simp only [cond_false] at he ⊢
    split at he
    · rename_i v hv
      cases he
      rw [R.get_eq] at hv
      obtain ⟨w, hw, hc⟩ := hr.get hv
      exact ⟨w, by simpa using hw, .a (.c hc)⟩
    · cases he
  · simp only [cond_true] at he ⊢
    cases hb : Nat.ble (off + k) r.size
    · rw [hb] at he; cases he
    · rw [hb] at he; cases he
      have h1 := ble_iff.1 hb
      rw [R.size_eq, hr.length] at h1
      simp only [Array.length_toList] at h1
      refine ⟨_, by rw [if_pos h1], .a (.agg ?_)⟩
      rw [R.take_toL, R.drop_toL]
      have e : (cs.extract off (off + k)).toList = (cs.toList.drop off).take k := by
        simp [Array.toList_extract, List.extract_eq_take_drop]
      rw [e]
      exact (hr.drop off).take k
def e_field (ag : Bool) (k off : Nat) (x : XA) : Option XV :=
  match x with
  | .agg r => partR ag k off r
  | _ => none
theorem e_field_ok {ag : Bool} {k off : Nat} {x : XA} {v : Value} {r : XV} {K : Value → Prop} (hv : RA ρ x v) (he : e_field ag k off x = some r) (hk : ∀ u, RV ρ r u → K u) : o_field ag k off v K := by
  unfold e_field at he
  split at he
  · cases hv with
    | agg hv =>
      obtain ⟨w, h1, h2⟩ := partR_ok hv he
      unfold o_field
      simp only [h1]; exact hk _ h2
  · cases he
def byteAt (s : ByteArray) (i : Nat) : Option Value :=
  match s with
  | ⟨⟨l⟩⟩ => match l[i]? with
    | some c => some (.int .u8 (.ofNat c.toNat))
    | none => none
def e_index (str : Bool) (len : Nat) (ag : Bool) (size : Nat) (x i : XA) : Option XV :=
  match i, x with
  | .c (.int _ (.ofNat i)), .agg r => bif (!str) && Nat.blt i len then partR ag size (i * size) r else none
  | .c (.int _ (.ofNat i)), .c (.string s) => bif str then (match byteAt s i with | some v => some (.a (.c v)) | none => none) else none
  | _, _ => none
theorem byteAt_ok {s : ByteArray} {i : Nat} {v : Value} (h : byteAt s i = some v) : ∃ c, s[i]? = some c ∧ v = .int .u8 c.toNat := by
  obtain ⟨⟨l⟩⟩ := s
  unfold byteAt at h
  simp only at h
  split at h
  · rename_i c hc
    cases h
    refine ⟨c, ?_, rfl⟩
    have hlt : i < l.length := by
      rw [List.getElem?_eq_some_iff] at hc; exact hc.1
    have e : (⟨⟨l⟩⟩ : ByteArray)[i]? = some ((⟨⟨l⟩⟩ : ByteArray)[i]'hlt) := by
      rw [getElem?_pos]
    rw [e]
    rw [List.getElem?_eq_getElem hlt] at hc
    cases hc; rfl
  · cases h
theorem e_index_ok {str : Bool} {len : Nat} {ag : Bool} {size : Nat} {x i : XA} {v w : Value} {r : XV} {K : Value → Prop} (hv : RA ρ x v) (hw : RA ρ i w) (he : e_index str len ag size x i = some r) (hk : ∀ u, RV ρ r u → K u) : o_index str len ag size v w K := by
  unfold e_index at he
  split at he
  · rename_i k i r
    cases hb : ((!str) && Nat.blt i len)
    · rw [hb] at he; cases he
    · rw [hb, cond_true] at he
      simp only [Bool.and_eq_true, Bool.not_eq_true'] at hb
      have := blt_iff.1 hb.2
      obtain rfl := hw.toC.self_eq rfl
      cases hv with
      | agg hv =>
        obtain ⟨w, h1, h2⟩ := partR_ok hv he
        unfold o_index
        refine ⟨hb.1, by simp, by simp; exact this, ?_⟩
        simp only [Int.ofNat_eq_natCast, Int.toNat_natCast, h1]; exact hk _ h2
  · rename_i k i s
    cases hb : str
    · rw [hb] at he; cases he
    · rw [hb, cond_true] at he
      obtain rfl := hw.toC.self_eq rfl
      obtain rfl := hv.toC.self_eq rfl
      split at he
      · rename_i u hu
        cases he
        obtain ⟨c, h1, rfl⟩ := byteAt_ok hu
        unfold o_index
        refine ⟨rfl, by simp, ?_⟩
        simp only [Int.ofNat_eq_natCast, Int.toNat_natCast, h1]; exact hk _ (.a (.c (.of_self rfl)))
      · cases he
  · cases he
def e_extract (x : XV) (i : Nat) : Option XV :=
  match x with
  | .tup l => match l[i]? with
    | some v => some (.a v)
    | none => none
  | _ => none
theorem e_extract_ok {x : XV} {i : Nat} {v : Value} {r : XV} {K : Value → Prop} (hv : RV ρ x v) (he : e_extract x i = some r) (hk : ∀ u, RV ρ r u → K u) : o_extract v i K := by
  unfold e_extract at he
  cases hv with
  | a hv => cases he
  | any => cases he
  | @tup l vs hv =>
    simp only at he
    split at he
    · rename_i u hu
      cases he
      obtain ⟨w, h1, h2⟩ := hv.get hu
      have h3 : vs[i]? = some w := by simpa using h1
      unfold o_extract
      simp only [h3]; exact hk _ (.a h2)
    · cases he

/-! ### Cells -/
def e_load (ag : Bool) (k : Nat) (a : XA) (eh : EH) : Option XV :=
  match a with
  | .c (.pointer (some ⟨b, o, none⟩)) => match eh.get b with
    | some (.cells r _ _) => partR ag k o r
    | _ => none
  | _ => none
theorem e_load_ok {ag : Bool} {k : Nat} {x : XA} {v : Value} {r : XV} {K : Value → Prop} (hs : XSim F ρ n eh h) (hv : RA ρ x v) (he : e_load ag k x eh = some r) (hk : ∀ u, RV ρ r u → K u) : o_load ag k v h K := by
  unfold e_load at he
  split at he
  · rename_i b o
    split at he
    · rename_i q E m hg
      obtain ⟨b', t, hb, rfl⟩ := hv.toC.ptr
      obtain ⟨cs, h1, h2⟩ := hs.cells hg hb
      obtain ⟨w, h3, h4⟩ := partR_ok (cs := cs.toArray) (by simpa using h2) he
      unfold partOf at h3
      unfold o_load
      cases ag
      · simp only [cond_false] at h3 ⊢
        have : cellAt h b' o = some w := by simpa [AM.cellAt, h1] using h3
        simp only [this]; exact hk _ h4
      · simp only [cond_true] at h3 ⊢
        split at h3
        · rename_i hl
          cases h3
          have hl' : o + k ≤ cs.length := by simpa using hl
          simp only [AM.cellsAt, h1, hl', if_true]
          have e : ((cs.drop o).take k).toArray = cs.toArray.extract o (o + k) := by
            simp [List.extract_eq_take_drop]
          rw [e]; exact hk _ h4
        · cases h3
    · cases he
  · cases he
def notRo : Own → Bool
  | .ro => false
  | _ => true
theorem notRo_ne {m : Own} (h : notRo m = true) : m ≠ .ro := by rintro rfl; cases h
def e_store (k : Nat) (a v : XA) (eh : EH) : Option EH :=
  match a with
  | .c (.pointer (some ⟨b, o, none⟩)) => match eh.get b with
    | some (.cells r E m) => bif notRo m && Nat.ble (o + k) r.size then (match v with
      | .c v => bif Nat.beq k 1 then some (eh.set b (.cells (r.set o v) E m)) else none
      | .agg s => bif Nat.beq s.size k then some (eh.set b (.cells (r.splice o s) E m)) else none) else none
    | _ => none
  | _ => none
theorem All2.setL {l m : List Value} {vs ws : List Value} (h : All2 (RC ρ) l m) (k : All2 (RC ρ) vs ws) (o : Nat) : All2 (RC ρ) (AM.setL l o vs) (AM.setL m o ws) := by
  induction k generalizing l m o with
  | nil => exact h
  | cons hv _ ih => exact ih (h.set o hv) (o + 1)
theorem e_store_ok {k : Nat} {x y : XA} {v w : Value} {eh' : EH} {K : H → Prop} (hs : XSim F ρ n eh h) (hv : RA ρ x v) (hw : RA ρ y w) (he : e_store k x y eh = some eh') (hk : ∀ h', XSim F ρ n eh' h' → K h') : o_store k v w h K := by
  unfold e_store at he
  split at he
  · rename_i b o
    split at he
    · rename_i q E m hg
      cases hb : (notRo m && Nat.ble (o + k) q.size)
      · rw [hb] at he; cases he
      · rw [hb, cond_true] at he
        simp only [Bool.and_eq_true] at hb
        have hle := ble_iff.1 hb.2
        obtain ⟨b', t, hρ, rfl⟩ := hv.toC.ptr
        obtain ⟨cs, h1, h2⟩ := hs.cells hg hρ
        rw [R.size_eq] at hle
        have hlen := h2.length
        unfold o_store
        simp only [h1]
        have hc := hw.cells
        split at he
        · rename_i u
          cases hk1 : Nat.beq k 1
          · rw [hk1] at he; cases he
          · rw [hk1, cond_true] at he; cases he
            have := Nat.eq_of_beq_eq_true hk1
            subst this
            have hsz : w.cells.size = 1 := by have := hc.length; simpa [XA.cellsR, R.toL] using this.symm
            refine ⟨notRo_ne hb.1, hw.boxV, hsz, by omega, hk _ (hs.upd hg rfl hρ (.cells ?_))⟩
            rw [R.set_toL]
            have := h2.setL hc o
            simpa [AM.setL, XA.cellsR, R.toL] using this
        · rename_i s
          cases hk1 : Nat.beq s.size k
          · rw [hk1] at he; cases he
          · rw [hk1, cond_true] at he; cases he
            have := Nat.eq_of_beq_eq_true hk1
            subst this
            have hsz : w.cells.size = s.size := by have := hc.length; simp only [XA.cellsR, Array.length_toList] at this; rw [R.size_eq]; exact this.symm
            refine ⟨notRo_ne hb.1, hw.boxV, hsz, by omega, hk _ (hs.upd hg rfl hρ (.cells ?_))⟩
            rw [R.splice_toL _ _ _ (by rw [R.size_eq q]; exact hle)]
            exact h2.setL hc o
    · cases he
  · cases he
theorem le_new (hs : XSim F ρ n eh h) {x : Nat × LObj} : ρ.le (fun b => if b = n then some x else ρ b) := by
  intro c y hy
  have h1 := hs.top n (Nat.le_refl n)
  have : c ≠ n := by rintro rfl; rw [h1] at hy; cases hy
  simp only [if_neg this]; exact hy
theorem new_ok {r : R} {cs : List Value} {E : TypeId} {m : Own} {K : Nat → H → Prop} (hs : XSim F ρ n eh h) (hc : All2 (RC ρ) r.toL cs)
    (hk : ∀ b' ρ' t h', ρ.le ρ' → ρ' n = some (b', t) → XSim F ρ' (n + 1) (eh.set n (.cells r E m)) h' → K b' h') : o_new cs E m h K := by
  intro b h2 hb
  obtain ⟨h3, h4⟩ := hs.new (o := .cells r E m) (o' := .cells cs E m) h2 hb undefT rfl (.cells (hc.mono2 fun _ _ hh => hh.mono (le_new hs)))
  exact hk b _ undefT _ h3 (by simp) h4
theorem newObj_ok {o : EO} {o' : AObj} {K : Nat → H → Prop} (hs : XSim F ρ n eh h) (hd : isDead o = false) (ho : RO ρ undefT o o')
    (hk : ∀ b' ρ' t h', ρ.le ρ' → ρ' n = some (b', t) → XSim F ρ' (n + 1) (eh.set n o) h' → K b' h') : o_newObj o' h K := by
  intro b h2 hb
  obtain ⟨h3, h4⟩ := hs.new (o := o) (o' := o') h2 hb undefT hd (ho.mono (le_new hs))
  exact hk b _ undefT _ h3 (by simp) h4
def zeroX (P : Program) (t : TypeId) : Option XA :=
  match zeroOf P t with
  | some (.agg cs) => some (.agg (R.runs cs.toList))
  | some v => some (.c v)
  | none => none
theorem zeroOf_self {t : TypeId} {z : Value} (h : zeroOf P t = some z) : selfA z = true := by
  unfold zeroOf at h
  split at h
  · split at h
    · cases h; assumption
    · cases h
  · cases h
theorem zeroX_ok {t : TypeId} {x : XA} (h : zeroX P t = some x) : ∃ z, zeroOf P t = some z ∧ RA ρ x z := by
  unfold zeroX at h
  split at h
  · rename_i cs hz
    cases h
    refine ⟨_, hz, .agg ?_⟩
    rw [R.runs_toL]
    have hs := zeroOf_self hz
    exact All2.refl_of fun a ha => .of_self (List.all_eq_true.1 hs a ha)
  · rename_i v hn hz
    cases h
    refine ⟨_, hz, .c (.of_self ?_)⟩
    have hs := zeroOf_self hz
    rw [selfA_cell] at hs
    · exact hs
    · cases v <;> first | rfl | exact absurd rfl (hn _) | simp [selfA, selfC] at hs
  · cases h
end
end
end Go.Proofs.YtjdhldfeflmneaaGreat.AM
