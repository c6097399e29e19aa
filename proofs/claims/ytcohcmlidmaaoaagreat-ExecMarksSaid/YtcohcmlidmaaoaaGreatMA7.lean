/-
  ExecMarks over the abstract memory: it returns true.
-/
import Derived.Test.YtcohcmlidmaaoaaGreatMA6
import Derived.Test.YtcohcmlidmaaoaaGreatRun5
set_option linter.unusedSimpArgs false
set_option linter.unusedVariables false
set_option maxRecDepth 100000
namespace Go.Proofs.YtcohcmlidmaaoaaGreat
open AM
section
variable {D : MD} {s : St} {h h' h'' : H}
structure LB (D : MD) (h : H) (v : Value) (l : List Nd) : Prop where
  ex : ∃ b o, v = .slice (some ⟨b, 0, none⟩) l.length l.length ∧ 2 ≤ b ∧ b ∉ D.bl ∧ (o = AM.Own.exact ∨ o = AM.Own.open) ∧ h b = some (.cells (l.flatMap Nd.cells) 40 o)
theorem lit1 (n : Nd) : litCells Tryz.prog 41 1 [(0, n.val)] = some (n.cells, 40) := by kernel_rfl
theorem lit2 (p : Int) : litCells Tryz.prog 41 2 [(0, Nd.val ⟨8, 0, 0, 0, 4096⟩), (1, Nd.val ⟨1, 1, 0, 0, p⟩)] = some ((head p).flatMap Nd.cells, 40) := by kernel_rfl
theorem litw : litCells Tryz.prog 28 1 [(0, .int .u32 115)] = some ([.int .u32 115], 27) := by kernel_rfl
theorem b_mark {v : Int} {K : Value → Prop} : o_build Tryz.prog 40 [(0, .int .i64 8), (4, .int .u32 v)] K = K (Nd.val ⟨8, 0, 0, 0, v⟩) := by kernel_rfl
theorem b_const {v : Int} {K : Value → Prop} : o_build Tryz.prog 40 [(0, .int .i64 1), (1, .int .i64 1), (4, .int .u32 v)] K = K (Nd.val ⟨1, 1, 0, 0, v⟩) := by kernel_rfl
theorem b_store {K : Value → Prop} : o_build Tryz.prog 40 [(0, .int .i64 7), (2, .int .i64 1), (3, .int .i64 1), (4, .int .u32 4)] K = K (Nd.val ⟨7, 0, 1, 1, 4⟩) := by kernel_rfl
theorem b_done {K : Value → Prop} : o_build Tryz.prog 40 [(0, .int .i64 9)] K = K (Nd.val ⟨9, 0, 0, 0, 0⟩) := by kernel_rfl
theorem b_jump {v : Int} {K : Value → Prop} : o_build Tryz.prog 40 [(0, .int .i64 12), (4, .int .u32 v)] K = K (Nd.val ⟨12, 0, 0, 0, v⟩) := by kernel_rfl
theorem b_feed {K : Value → Prop} : o_build Tryz.prog 34 [] K = K feedV := by kernel_rfl
theorem b_pol {K : Value → Prop} : o_build Tryz.prog 38 [] K = K polV := by kernel_rfl
theorem eq_end {K : Value → Prop} : o_bin Tryz.prog .eql 47 endV endV K = K (.bool true) := by kernel_rfl
theorem eqlM {a : Addr} {K : Value → Prop} : o_bin Tryz.prog .eql 23 (.pointer (some a)) (.pointer none) K = K (.bool false) := by
  have hu : Tryz.prog.underlying 23 = some (.pointer 61) := by kernel_rfl
  unfold o_bin
  have : (selfV (.pointer (some a)) && selfV (.pointer none) && okEq Tryz.prog .eql 23 (.pointer (some a)) (.pointer none)) = false := rfl
  simp only [this, cond_false, hu]
  rfl
theorem push {v : Value} {l : List Nd} {n : Nd} (hm : MH D s h) (hl : LB D h v l) (hlen : l.length < 1000) (hne : l ≠ []) {K : Value → H → Prop} (hk : ∀ v' h', MH D s h' → LB D h' v' (l ++ [n]) → K v' h') :
    o_buildSlice Tryz.prog 41 1 [(0, n.val)] h fun v68 h => o_append 40 5 40 v v68 h K := by
  obtain ⟨b, o, rfl, hb2, hbD, ho, hb⟩ := hl.ex
  unfold o_buildSlice
  rw [lit1]
  intro b3 hb32 hb3
  have hm1 := hm.newb (o := .cells n.cells 40 .exact) hb3
  have hbb : b ≠ b3 := fun e => by rw [e, hb3] at hb; cases hb
  have hb1 : upd h b3 (.cells n.cells 40 .exact) b = some (.cells (l.flatMap Nd.cells) 40 o) := by rw [upd_ne _ _ hbb]; exact hb
  have hsrc : srcCells 5 (upd h b3 (.cells n.cells 40 .exact)) (.slice (some ⟨b3, 0, none⟩) 1 1) 1 = some n.cells := by
    show cellsAt _ b3 0 (1 * 5) = _
    rw [cellsAt_of (upd_same _ _ _) (Nat.le_refl 5)]; rfl
  generalize upd h b3 (.cells n.cells 40 .exact) = h1 at *
  have hll := flat_length (nd_len l)
  have hlen' : l.length + 1 = (l ++ [n]).length := by simp
  have hfl : ((l.flatMap Nd.cells).drop 0).take (l.length * 5) ++ n.cells = (l ++ [n]).flatMap Nd.cells := by
    rw [List.drop_zero, ← hll, List.take_length, List.flatMap_append]; simp
  unfold o_append
  have hsl : srcLen (.slice (some ⟨b3, 0, none⟩) 1 1) = some 1 := rfl
  simp only [hsl, hsrc]
  rw [if_neg (by omega)]
  refine ⟨by omega, by omega, by rfl, by decide, ?_⟩
  rw [if_neg (by omega)]
  simp only [hb1]
  refine ⟨by omega, ?_⟩
  rw [hfl, hlen']
  rcases ho with rfl | rfl
  · intro b' hb'2 hb'
    exact hk _ _ (hm1.newb hb') ⟨b', .open, rfl, hb'2, hm1.fresh hb', .inr rfl, upd_same _ _ _⟩
  · refine ⟨trivial, by omega, by decide, fun b' hb'2 hb' => ?_⟩
    refine hk _ _ ?_ ⟨b', .open, rfl, hb'2, hm1.fresh hb', .inr rfl, upd_same _ _ _⟩
    refine hm1.keep fun c hc => ?_
    rw [upd_ne _ _ (show c ≠ b' from fun e => hm1.fresh hb' (e ▸ hc)), del_ne _ (show c ≠ b from fun e => hbD (e ▸ hc))]
theorem seg_eq {at_ : Int} {i : Nat} : seg at_ i = (if 0 < i then [⟨8, 0, 0, 0, 4096 + 4 * (i : Int)⟩] else []) ++ ((if (i : Int) = at_ then [⟨7, 0, 1, 1, 4⟩] else []) ++ [⟨9, 0, 0, 0, 0⟩]) := rfl
theorem w4 {i : Nat} (hi : i ≤ 20) : IntKind.u32.wrap (4096 + IntKind.u32.wrap (IntKind.i64.wrap (4 * (i : Int)))) = 4096 + 4 * (i : Int) := by
  rw [wrap64 (by omega) (by omega), wrapu32 (n := 4 * (i : Int)) (by omega) (by omega), wrapu32 (by omega) (by omega)]
theorem marks_run {n : Nat} {fuel at_ : Int} {other : Bool} {Q : Value → H → Prop} {p : Int} (hp : p = if other = true then 65536 else 4200) (hn1 : 1 ≤ n) (hn : n ≤ 20) (hf : 0 ≤ fuel) (hf2 : fuel ≤ 30) (hat1 : -1 ≤ at_) (hat : at_ < n) (hm : MH D ⟨4096, 0, 2⟩ h) (hq : ∀ h', Q (.bool true) h') :
    F3_3 (.int .i64 (n : Nat)) (.int .i64 fuel) (.int .i64 at_) (.bool other) (ptr D.m 0) (.int .u32 p) h (fun v h => Q v h) (fun v h => Q v h) := by
  have hp2 : p = 4200 ∨ p = 65536 := by rw [hp]; cases other <;> simp
  unfold F3_3
  rw [b_mark, b_const]
  unfold o_buildSlice
  rw [lit2]
  intro b1 hb12 hb1
  have hm1 := hm.newb (o := .cells ((head p).flatMap Nd.cells) 40 .exact) hb1
  have hl1 : LB D (upd h b1 (.cells ((head p).flatMap Nd.cells) 40 .exact)) (.slice (some ⟨b1, 0, none⟩) 2 2) (head p) := ⟨b1, .exact, rfl, hb12, hm.fresh hb1, .inl rfl, upd_same _ _ _⟩
  try dsimp only
  generalize upd h b1 (.cells ((head p).flatMap Nd.cells) 40 .exact) = h1 at *
  unfold F3_4 F3_5 F3_6 F3_7
  refine ⟨fun k st h' => ∃ (i : Nat) (v : Value), st = (.int .i64 (n : Nat), .int .i64 fuel, .int .i64 at_, .bool other, ptr D.m 0, v, .int .i64 (i : Nat)) ∧ k = n - i ∧ i ≤ n ∧ MH D ⟨4096, 0, 2⟩ h' ∧ LB D h' v (head p ++ segs at_ 0 i), ⟨n, 0, _, rfl, rfl, by omega, hm1, by simpa [segs] using hl1⟩, ?_⟩
  rintro k st h2 ⟨i, v, rfl, rfl, hi, a1, a2⟩
  have hsl := segs_len (at_ := at_) i 0
  have hnn : ∀ r : List Nd, head p ++ r ≠ [] := fun r => by simp [head]
  simp only [F3_8, bin_lss]
  by_cases hlt : i < n
  · have d1 : decide ((i : Int) < (n : Int)) = true := by simp; omega
    rw [d1, if_true']
    unfold F3_9 F3_10 F3_11 F3_12
    rw [bin_gtr]
    -- what is behind the mark
    have rest : ∀ v h3 l, MH D ⟨4096, 0, 2⟩ h3 → LB D h3 v l → l ≠ [] → l.length < 900 → l ++ ((if (i : Int) = at_ then [⟨7, 0, 1, 1, 4⟩] else []) ++ [⟨9, 0, 0, 0, 0⟩]) = head p ++ segs at_ 0 (i + 1) →
        F3_13 (.int .i64 (n : Nat)) (.int .i64 fuel) (.int .i64 at_) (.bool other) (ptr D.m 0) v (.int .i64 (i : Nat)) h3
          (fun y0 y1 y2 y3 y9 y12 y13 h => F3_16 y0 y1 y2 y3 y9 y12 y13 h (fun y0 y1 y2 y3 y9 y12 y13 h => ∃ m, m < n - i ∧ ∃ (i : Nat) (v : Value), (y0, y1, y2, y3, y9, y12, y13) = (Value.int .i64 (n : Nat), Value.int .i64 fuel, Value.int .i64 at_, Value.bool other, ptr D.m 0, v, Value.int .i64 (i : Nat)) ∧ m = n - i ∧ i ≤ n ∧ MH D ⟨4096, 0, 2⟩ h ∧ LB D h v (head p ++ segs at_ 0 i)) (fun v h => Q v h) (fun y0 y1 y2 y3 y9 y12 h => F3_17 y0 y1 y2 y3 y9 y12 h (fun v h => Q v h) (fun v h => Q v h)))
          (fun v h => Q v h)
          (fun y0 y1 y2 y3 y9 y12 y13 h => F3_16 y0 y1 y2 y3 y9 y12 y13 h (fun y0 y1 y2 y3 y9 y12 y13 h => ∃ m, m < n - i ∧ ∃ (i : Nat) (v : Value), (y0, y1, y2, y3, y9, y12, y13) = (Value.int .i64 (n : Nat), Value.int .i64 fuel, Value.int .i64 at_, Value.bool other, ptr D.m 0, v, Value.int .i64 (i : Nat)) ∧ m = n - i ∧ i ≤ n ∧ MH D ⟨4096, 0, 2⟩ h ∧ LB D h v (head p ++ segs at_ 0 i)) (fun v h => Q v h) (fun y0 y1 y2 y3 y9 y12 h => F3_17 y0 y1 y2 y3 y9 y12 h (fun v h => Q v h) (fun v h => Q v h)))
          (fun y0 y1 y2 y3 y9 y12 h => F3_17 y0 y1 y2 y3 y9 y12 h (fun v h => Q v h) (fun v h => Q v h)) := by
      intro v h3 l c1 c2 c3 c4 c5
      have fin : ∀ v h3 l, MH D ⟨4096, 0, 2⟩ h3 → LB D h3 v l → l ≠ [] → l.length < 999 → l ++ [⟨9, 0, 0, 0, 0⟩] = head p ++ segs at_ 0 (i + 1) →
        F3_15 (.int .i64 (n : Nat)) (.int .i64 fuel) (.int .i64 at_) (.bool other) (ptr D.m 0) v (.int .i64 (i : Nat)) h3
          (fun y0 y1 y2 y3 y9 y12 y13 h => F3_16 y0 y1 y2 y3 y9 y12 y13 h (fun y0 y1 y2 y3 y9 y12 y13 h => ∃ m, m < n - i ∧ ∃ (i : Nat) (v : Value), (y0, y1, y2, y3, y9, y12, y13) = (Value.int .i64 (n : Nat), Value.int .i64 fuel, Value.int .i64 at_, Value.bool other, ptr D.m 0, v, Value.int .i64 (i : Nat)) ∧ m = n - i ∧ i ≤ n ∧ MH D ⟨4096, 0, 2⟩ h ∧ LB D h v (head p ++ segs at_ 0 i)) (fun v h => Q v h) (fun y0 y1 y2 y3 y9 y12 h => F3_17 y0 y1 y2 y3 y9 y12 h (fun v h => Q v h) (fun v h => Q v h)))
          (fun v h => Q v h)
          (fun y0 y1 y2 y3 y9 y12 y13 h => F3_16 y0 y1 y2 y3 y9 y12 y13 h (fun y0 y1 y2 y3 y9 y12 y13 h => ∃ m, m < n - i ∧ ∃ (i : Nat) (v : Value), (y0, y1, y2, y3, y9, y12, y13) = (Value.int .i64 (n : Nat), Value.int .i64 fuel, Value.int .i64 at_, Value.bool other, ptr D.m 0, v, Value.int .i64 (i : Nat)) ∧ m = n - i ∧ i ≤ n ∧ MH D ⟨4096, 0, 2⟩ h ∧ LB D h v (head p ++ segs at_ 0 i)) (fun v h => Q v h) (fun y0 y1 y2 y3 y9 y12 h => F3_17 y0 y1 y2 y3 y9 y12 h (fun v h => Q v h) (fun v h => Q v h)))
          (fun y0 y1 y2 y3 y9 y12 h => F3_17 y0 y1 y2 y3 y9 y12 h (fun v h => Q v h) (fun v h => Q v h)) := by
        intro v h3 l c1 c2 c3 c4 c5
        unfold F3_15
        rw [b_done]
        refine push c1 c2 (by omega) c3 fun v' h4 e1 e2 => ?_
        unfold F3_16
        try dsimp only
        rw [bin_add]
        have e3 : IntKind.i64.wrap ((i : Int) + 1) = ((i + 1 : Nat) : Int) := by rw [wrap64 (by omega) (by omega)]; omega
        rw [e3]
        exact ⟨n - (i + 1), by omega, i + 1, v', rfl, rfl, by omega, e1, by rw [← c5]; exact e2⟩
      unfold F3_13 F3_14
      rw [bin_eql]
      by_cases he : (i : Int) = at_
      · rw [show decide ((i : Int) = at_) = true from by simp [he], if_true', b_store]
        rw [if_pos he] at c5
        refine push c1 c2 (by omega) c3 fun v' h4 e1 e2 => ?_
        exact fin v' h4 _ e1 e2 (by simp) (by simp; omega) (by rw [List.append_assoc]; exact c5)
      · rw [show decide ((i : Int) = at_) = false from by simp [he], if_false']
        rw [if_neg he, List.nil_append] at c5
        exact fin v h3 l c1 c2 c3 (by omega) c5
    have hh : (head p).length = 2 := rfl
    have hend : ∀ l, l = (if 0 < i then [⟨8, 0, 0, 0, 4096 + 4 * (i : Int)⟩] else []) → (head p ++ segs at_ 0 i ++ l) ++ ((if (i : Int) = at_ then [⟨7, 0, 1, 1, 4⟩] else []) ++ [⟨9, 0, 0, 0, 0⟩]) = head p ++ segs at_ 0 (i + 1) := by
      rintro l rfl
      rw [segs_end, Nat.zero_add, seg_eq]; simp only [List.append_assoc]
    by_cases h0 : 0 < i
    · rw [show decide ((0 : Int) < (i : Int)) = true from by simp; omega, if_true', bin_mul, conv_int, bin_add, w4 (by omega), b_mark]
      refine push a1 a2 (by simp only [List.length_append, hh]; omega) (hnn _) fun v' h3 c1 c2 => ?_
      refine rest v' h3 _ c1 c2 (by simp) (by simp only [List.length_append, hh, List.length_singleton]; omega) ?_
      exact hend _ (by rw [if_pos h0])
    · rw [show decide ((0 : Int) < (i : Int)) = false from by simp; omega, if_false']
      refine rest v h2 _ a1 a2 (hnn _) (by simp only [List.length_append, hh]; omega) ?_
      have := hend [] (by rw [if_neg h0])
      rw [List.append_nil] at this; exact this
  · have d1 : decide ((i : Int) < (n : Int)) = false := by simp; omega
    rw [d1, if_false']
    have : i = n := by omega
    subst this
    have hh : (head p).length = 2 := rfl
    unfold F3_17
    rw [bin_mul, conv_int, bin_add, w4 hn, b_jump]
    refine push a1 a2 (by simp only [List.length_append, hh]; omega) (hnn _) fun v' h3 c1 c2 => ?_
    have hlst : head p ++ segs at_ 0 i ++ [⟨12, 0, 0, 0, 4096 + 4 * (i : Int)⟩] = lst i at_ p := rfl
    rw [hlst] at c2
    obtain ⟨b, o, rfl, hb2, hbD, _, hb⟩ := c2.ex
    obtain ⟨r, hr1, hr2⟩ := lst_kd (n := i) (at_ := at_) (p := p) hn
    have hll := lst_len (n := i) (at_ := at_) (p := p) hn
    refine ⟨rfl, Run_spec hp2 hr1 hr2 (lst_good hn) (by omega) c1 hb hbD fun h4 e1 => ?_⟩
    have hlaw := list_law (wr := wr) (wg := wg) (fun x h0 h1 => wrap64 (by omega) (by omega)) (fuel := fuel) (at_ := at_) (p := p) (g0 := 2) (pc := 4096) (n := i) (other := other) (by decide) (by rw [hp]; cases other <;> simp) hn1 hn hf hat hat1
    intro b14 hb142 hb14
    try dsimp only
    rw [store_ok (upd_same _ _ _) (by simp) (by rfl) (by rfl) (Nat.le_refl 5)]
    have e14 := e1.newb (o := .cells [Value.int .i64 0, Value.int .u32 0, Value.int .i64 0, Value.int .i64 0, Value.bool false] 47 .exact) hb14
    have hD14 := e1.fresh hb14
    have e15 := e14.upd (b := b14) (o := .cells (setL [Value.int .i64 0, Value.int .u32 0, Value.int .i64 0, Value.int .i64 0, Value.bool false] 0 endV.cells.toList) 47 .exact) hD14
    have hc := e15.cell
    have hl14 : ∀ K : Value → Prop, o_load true 5 (ptr b14 0) (upd (upd h4 b14 (.cells [Value.int .i64 0, Value.int .u32 0, Value.int .i64 0, Value.int .i64 0, Value.bool false] 47 .exact)) b14 (.cells (setL [Value.int .i64 0, Value.int .u32 0, Value.int .i64 0, Value.int .i64 0, Value.bool false] 0 endV.cells.toList) 47 .exact)) K = K endV := fun K => load_aggU (by rfl)
    generalize upd (upd h4 b14 (.cells [Value.int .i64 0, Value.int .u32 0, Value.int .i64 0, Value.int .i64 0, Value.bool false] 47 .exact)) b14 (.cells (setL [Value.int .i64 0, Value.int .u32 0, Value.int .i64 0, Value.int .i64 0, Value.bool false] 0 endV.cells.toList) 47 .exact) = h5 at *
    rw [hlaw.1, hlaw.2] at hc
    -- the last line
    have last : ∀ d : Int, d = doneB i fuel at_ other → F3_22 (ptr D.m 0) (ptr b14 0) (.int .i64 d) h5 (fun v h => Q v h) (fun v h => Q v h) := by
      rintro d rfl
      have hd : 0 ≤ doneB i fuel at_ other ∧ doneB i fuel at_ other ≤ 20 := by
        unfold doneB
        dsimp only
        split <;> split <;> omega
      unfold F3_22
      rw [hl14, build_end, eq_end, guard_tt]
      simp only [nil_ptr, field_addr, Nat.zero_add, Nat.reduceAdd, load_cell hc.2.2, load_cell hc.2.1, bin_eql, decide_true, pick_true, guard_tt, bin_mul, conv_int, bin_add]
      have e : IntKind.u32.wrap (4096 + IntKind.u32.wrap (IntKind.i64.wrap (4 * doneB i fuel at_ other))) = 4096 + 4 * doneB i fuel at_ other := by
        rw [wrap64 (by omega) (by omega), wrapu32 (n := 4 * doneB i fuel at_ other) (by omega) (by omega), wrapu32 (by omega) (by omega)]
      rw [e]
      simp only [decide_true, pick_true]
      exact hq _
    have mid : ∀ d : Int, d = (if fuel < i then fuel else (i : Int)) → F3_20 (.int .i64 at_) (.bool other) (ptr D.m 0) (ptr b14 0) (.int .i64 d) h5 (fun v h => Q v h) (fun v h => Q v h) := by
      intro d hd
      have hd2 : 0 ≤ d ∧ d ≤ 30 := by rw [hd]; split <;> omega
      have hdone : doneB i fuel at_ other = if 0 ≤ at_ ∧ other = false ∧ at_ + 1 < d then at_ + 1 else d := by unfold doneB; rw [hd]
      unfold F3_20 F3_21
      have e1 : IntKind.i64.wrap (at_ + 1) = at_ + 1 := wrap64 (by omega) (by omega)
      simp only [bin_geq, un_not, guard_and, and_val, bin_add, e1, bin_lss]
      cases hb : (decide (0 ≤ at_) && !other && decide (at_ + 1 < d))
      · rw [if_false']
        refine last d ?_
        rw [hdone, if_neg]
        rintro ⟨q1, q2, q3⟩
        simp [q1, q2, q3] at hb
      · rw [if_true']
        refine last _ ?_
        simp only [Bool.and_eq_true, decide_eq_true_eq, Bool.not_eq_true'] at hb
        rw [hdone, if_pos ⟨hb.1.1, hb.1.2, hb.2⟩]
    unfold F3_18 F3_19
    rw [bin_lss]
    by_cases hfn : fuel < (i : Int)
    · rw [show decide (fuel < (i : Int)) = true from by simp [hfn], if_true']
      exact mid _ (by rw [if_pos hfn])
    · rw [show decide (fuel < (i : Int)) = false from by simpa using hfn, if_false']
      exact mid _ (by rw [if_neg hfn])
theorem execMarks_am {n fuel at_ : Int} {other : Bool} {Q : Value → H → Prop} (hq : ∀ h', Q (.bool true) h') : AM.Spec Tryz.prog 3 [.int .i64 n, .int .i64 fuel, .int .i64 at_, .bool other] h Q := by
  refine F3_spec _ _ _ _ _ _ ?_
  unfold F3 F3_0
  refine ⟨rfl, (awake5 h).mono ?_⟩
  rintro v h1 ⟨rfl, _⟩
  simp only [un_not, Bool.not_true, if_false', bin_lss, bin_gtr, bin_geq, guard_or, or_val]
  cases hb : (decide (n < 1) || decide (20 < n) || decide (fuel < 0) || decide (30 < fuel) || decide (at_ < -1) || decide (n ≤ at_))
  · rw [if_false']
    simp only [Bool.or_eq_false_iff, decide_eq_false_iff_not] at hb
    unfold o_buildSlice
    rw [litw]
    intro bw hbw2 hbw
    try dsimp only
    rw [b_feed, b_pol]
    refine ⟨rfl, pair_spec hbw2 hbw fun D w h2 hm => ?_⟩
    rw [ex0, ex1, eqlM, if_false']
    obtain ⟨k, rfl⟩ : ∃ k : Nat, n = k := ⟨n.toNat, by omega⟩
    unfold F3_1 F3_2
    cases other
    · rw [if_false']
      exact marks_run (by rfl) (by omega) (by omega) (by omega) (by omega) (by omega) (by omega) hm hq
    · rw [if_true']
      exact marks_run (by rfl) (by omega) (by omega) (by omega) (by omega) (by omega) (by omega) hm hq
  · rw [if_true']
    exact hq _
end
end Go.Proofs.YtcohcmlidmaaoaaGreat
