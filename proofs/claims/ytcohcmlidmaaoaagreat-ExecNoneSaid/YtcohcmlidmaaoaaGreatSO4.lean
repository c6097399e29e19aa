/-
  The sort of numbers over the abstract memory: the pivot; the pattern breaker.
-/
import Derived.Test.YtcohcmlidmaaoaaGreatSO3
set_option linter.unusedVariables false
set_option linter.unusedSimpArgs false
set_option maxRecDepth 100000
namespace Go.Proofs.YtcohcmlidmaaoaaGreat
open Go.Proofs.YtcohcmlidmaaoaaGreat.AM
open Go.Sort (swp ltInt)
section
variable {h0 : H} {b c L : Nat} {E : TypeId} {m : AM.Own} {d : Array Int}
def HS (h0 : H) (b : Nat) (E : TypeId) (m : AM.Own) (d : Array Int) (s : Nat) (S : TypeId) (k : IntKind) (n : Int) : H := AM.upd (AB h0 b E m d) s (.cells [.int k n] S .exact)
theorem ldS {s : Nat} {S : TypeId} {k : IntKind} {x : Int} (hs : s ≠ b) {n : Nat} {K : Value → Prop} (hn : n < d.size) : o_load false 1 (.pointer (some ⟨b, n, none⟩)) (HS h0 b E m d s S k x) K = K (.int .u32 d[n]!) := by
  rw [load_cell (v := .int .u32 d[n]!) (by rw [cellAt_of (by rw [HS, upd_ne _ _ hs.symm]; exact AB_same)]; exact encD_get hn)]
theorem ldC {s : Nat} {S : TypeId} {k : IntKind} {x : Int} {K : Value → Prop} : o_load false 1 (.pointer (some ⟨s, 0, none⟩)) (HS h0 b E m d s S k x) K = K (.int k x) := by
  rw [load_cell (v := .int k x) (by unfold HS; rw [cellAt_of (upd_same _ _ _)]; rfl)]
theorem upd_upd {h : H} {s : Nat} {o o' : AObj} : AM.upd (AM.upd h s o) s o' = AM.upd h s o' := by
  funext x; unfold AM.upd; split <;> rfl
theorem stC {s : Nat} {S : TypeId} {k : IntKind} {x y : Int} {K : H → Prop} : o_store 1 (.pointer (some ⟨s, 0, none⟩)) (.int k y) (HS h0 b E m d s S k x) K = K (HS h0 b E m d s S k y) := by
  unfold HS
  rw [store_ok (n := 1) (upd_same _ _ _) (by simp) rfl rfl (by simp), upd_upd]; rfl
theorem HS_AB {s : Nat} {S : TypeId} {k : IntKind} {x : Int} (hs : s ≠ b) : HS h0 b E m d s S k x = AB (AM.upd h0 s (.cells [.int k x] S .exact)) b E m d := by
  funext c
  unfold HS AB AM.upd
  by_cases h1 : c = s
  · have : c ≠ b := fun e => hs (h1 ▸ e)
    simp [h1, hs]
  · simp [h1]
theorem AB_HS {s : Nat} {S : TypeId} {k : IntKind} {x : Int} : AM.upd (AB h0 b E m d) s (.cells [.int k x] S .exact) = HS h0 b E m d s S k x := rfl
theorem freshS {s : Nat} (hs : AB h0 b E m d s = none) : s ≠ b ∧ h0 s = none := by
  have : s ≠ b := by rintro rfl; rw [AB_same] at hs; cases hs
  exact ⟨this, by rw [AB, upd_ne _ _ this] at hs; exact hs⟩
theorem order2_ok {s : Nat} (hs : s ≠ b) (hL : d.size = L) {x y k : Nat} (hx : x < L) (hy : y < L) (hk : k < 100) {Q : Value → H → Prop}
    (hq : Q (.tuple #[.int .i64 (Sort.order2 ltInt d x y k).1, .int .i64 (Sort.order2 ltInt d x y k).2.1]) (HS h0 b E m d s 3 .i64 (Sort.order2 ltInt d x y k).2.2)) :
    AM.Spec Tryz.prog 191 [SL b L c, .int .i64 (x : Nat), .int .i64 (y : Nat), .pointer (some ⟨s, 0, none⟩)] (HS h0 b E m d s 3 .i64 (k : Nat)) Q := by
  refine F191_spec _ _ _ _ _ _ ?_
  simp (disch := first | assumption | omega) only [F191, F191_0, F191_1, F191_2, F191_3, F191_4, F191_5, ix, ldS, tn0, dLess, if_bool, nil_ptr, ldC, bin_add, wrap64, stC, List.all_cons, List.all_nil, bx_int, Bool.and_true, cond_true]
  unfold Sort.order2 ltInt at hq
  by_cases hl : d[y]! < d[x]!
  · rw [if_pos (by simpa using hl)]
    rw [if_pos (by simpa using hl)] at hq
    simpa using hq
  · rw [if_neg (by simpa using hl)]
    rw [if_neg (by simpa using hl)] at hq
    exact hq
theorem order2_in {x y k : Nat} (hx : x < L) (hy : y < L) : (Sort.order2 ltInt d x y k).1 < L ∧ (Sort.order2 ltInt d x y k).2.1 < L ∧ (Sort.order2 ltInt d x y k).2.2 ≤ k + 1 := by
  unfold Sort.order2
  split <;> simp <;> omega
theorem median_ok {s : Nat} (hs : s ≠ b) (hL : d.size = L) {x y z k : Nat} (hx : x < L) (hy : y < L) (hz : z < L) (hk : k < 90) {Q : Value → H → Prop}
    (hq : Q (.int .i64 (Sort.median ltInt d x y z k).1) (HS h0 b E m d s 3 .i64 (Sort.median ltInt d x y z k).2)) :
    AM.Spec Tryz.prog 189 [SL b L c, .int .i64 (x : Nat), .int .i64 (y : Nat), .int .i64 (z : Nat), .pointer (some ⟨s, 0, none⟩)] (HS h0 b E m d s 3 .i64 (k : Nat)) Q := by
  refine F189_spec _ _ _ _ _ _ _ ?_
  have o1 := order2_in (d := d) (k := k) hx hy
  have o2 := order2_in (d := d) (k := (Sort.order2 ltInt d x y k).2.2) o1.2.1 hz
  refine ⟨rfl, order2_ok hs hL hx hy (by omega) ?_⟩
  rw [ex0, ex1]
  refine ⟨rfl, order2_ok hs hL o1.2.1 hz (by omega) ?_⟩
  rw [ex0, ex1]
  refine ⟨rfl, order2_ok hs hL o1.1 o2.1 (by omega) ?_⟩
  rw [ex0, ex1]
  exact hq
def hN : Sort.Hint → Int
  | .unknown => 0
  | .increasing => 1
  | .decreasing => 2
theorem pivot_ok (hL : d.size = L) (hb : L < 50) {x y : Nat} (hxy : x + 12 < y) (hy : y ≤ L) {Q : Value → H → Prop}
    (hq : Q (.tuple #[.int .i64 (Sort.choosePivot ltInt d x y).1, .int .i64 (hN (Sort.choosePivot ltInt d x y).2)]) (AB h0 b E m d)) :
    AM.Spec Tryz.prog 176 [SL b L c, .int .i64 (x : Nat), .int .i64 (y : Nat)] (AB h0 b E m d) Q := by
  refine spec_ret (fun Q hq => ?_) hq
  refine F176_spec _ _ _ _ _ ?_
  have e1 : ((y : Int) - (x : Int)) = ((y - x : Nat) : Int) := by omega
  have e2 : (((y - x : Nat) : Int)).tdiv 4 = (((y - x) / 4 : Nat) : Int) := by
    rw [Int.tdiv_eq_ediv_of_nonneg (by omega)]; omega
  simp (disch := omega) only [F176, F176_0, bin_sub, wrap64, e1]
  intro s hs2 hs
  obtain ⟨hsb, hs0⟩ := freshS hs
  rw [AB_HS]
  have g1 : (x : Int) + (((y - x) / 4 : Nat) : Int) * 1 = ((x + (y - x) / 4 * 1 : Nat) : Int) := by omega
  have g2 : (x : Int) + (((y - x) / 4 : Nat) : Int) * 2 = ((x + (y - x) / 4 * 2 : Nat) : Int) := by omega
  have g3 : (x : Int) + (((y - x) / 4 : Nat) : Int) * 3 = ((x + (y - x) / 4 * 3 : Nat) : Int) := by omega
  simp (disch := omega) only [bin_quo, e2, wrap64, bin_mul, bin_add, g1, g2, g3, F176_1, F176_2, F176_3, F176_4, F176_5, F176_6, bin_geq, if_bool]
  rw [if_pos (by simp <;> omega), if_neg (by simp <;> omega)]
  refine ⟨rfl, ?_⟩
  have e0 : (0 : Int) = ((0 : Nat) : Int) := rfl
  rw [e0]
  have med : Sort.median ltInt d (x + (y - x) / 4 * 1) (x + (y - x) / 4 * 2) (x + (y - x) / 4 * 3) 0 = (let r := Sort.median ltInt d (x + (y - x) / 4 * 1) (x + (y - x) / 4 * 2) (x + (y - x) / 4 * 3) 0; r) := rfl
  refine median_ok hsb hL (by omega) (by omega) (by omega) (by omega) ?_
  simp only [F176_8, ldC]
  have hch : Sort.choosePivot ltInt d x y = ((Sort.median ltInt d (x + (y - x) / 4 * 1) (x + (y - x) / 4 * 2) (x + (y - x) / 4 * 3) 0).1, if (Sort.median ltInt d (x + (y - x) / 4 * 1) (x + (y - x) / 4 * 2) (x + (y - x) / 4 * 3) 0).2 = 0 then .increasing else if (Sort.median ltInt d (x + (y - x) / 4 * 1) (x + (y - x) / 4 * 2) (x + (y - x) / 4 * 3) 0).2 = 12 then .decreasing else .unknown) := by
    unfold Sort.choosePivot
    simp only [show y - x ≥ 8 by omega, show ¬ y - x ≥ 50 by omega, if_true, if_false]
  rw [hch] at hq
  simp only at hq
  generalize Sort.median ltInt d (x + (y - x) / 4 * 1) (x + (y - x) / 4 * 2) (x + (y - x) / 4 * 3) 0 = r at hq ⊢
  have hsub : Sub (AB h0 b E m d) (HS h0 b E m d s 3 .i64 (r.2 : Nat)) := by
    unfold HS
    exact Sub.new (by rw [AB, upd_ne _ _ hsb]; exact hs0)
  simp only [bin_eql, if_bool, List.all_cons, List.all_nil, bx_int, Bool.and_true, cond_true]
  by_cases h1 : r.2 = 0
  · rw [if_pos (by simp [h1])]
    have := hq _ hsub
    rw [if_pos h1] at this
    exact this
  · rw [if_neg (by simp <;> omega)]
    by_cases h2 : r.2 = 12
    · rw [if_pos (by simp [h2])]
      have := hq _ hsub
      rw [if_neg h1, if_pos h2] at this
      exact this
    · rw [if_neg (by simp <;> omega)]
      have := hq _ hsub
      rw [if_neg h1, if_neg h2] at this
      exact this
/-! ### The pattern breaker -/
theorem lenCheck : ((List.range 64).all fun n => match CC 165 [.c (.int .u64 (.ofNat n))] .nil 2 with | some (.a (.c (.int .i64 (.ofNat r))), _, _) => Nat.beq r (Sort.bitsLen n) | _ => false) = true := by kernel_rfl
theorem len_ok {n : Nat} (hn : n < 64) {h : H} {Q : Value → H → Prop} (hq : Q (.int .i64 (Sort.bitsLen n)) h) : AM.Spec Tryz.prog 165 [.int .u64 (n : Nat)] h Q := by
  have hc := List.all_eq_true.1 lenCheck n (List.mem_range.2 hn)
  split at hc
  · rename_i r eh n' he
    have hr := Nat.eq_of_beq_eq_true hc
    subst hr
    refine Spec.forget ((CC_ok 165 _ _ _ _ he h ρ0 h [.int .u64 (n : Nat)] (XSim.start h) (.cons (.c (.of_self rfl)) .nil)).mono ?_)
    rintro v h' ⟨ρ', _, hs, hv⟩
    refine ⟨h, fun c o hc => hs.fr c o hc, ?_⟩
    cases hv with
    | a hv =>
      rw [hv.toC.self_eq rfl]
      exact hq
  · cases hc
theorem u64_wrap {n : Nat} (h : n < 18446744073709551616) : IntKind.u64.wrap (n : Int) = (n : Int) := wrap_id (by simp [IntKind.min, IntKind.signed]) (by simp [IntKind.max, IntKind.signed, IntKind.bits]; omega)
theorem pow_ok {n : Nat} (hn : n < 64) {h : H} {Q : Value → H → Prop} (hq : Q (.int .u64 ((1 <<< Sort.bitsLen n : Nat) : Int)) h) : AM.Spec Tryz.prog 186 [.int .i64 (n : Nat)] h Q := by
  refine F186_spec _ _ _ ?_
  simp only [F186, F186_0, conv_int, u64_wrap (show n < 18446744073709551616 by omega)]
  refine ⟨rfl, len_ok hn ?_⟩
  have hl : Sort.bitsLen n ≤ 6 := by
    unfold Sort.bitsLen
    split
    · omega
    · have := (Nat.log2_lt (n := n) (k := 6) (by omega)).2 (by omega)
      omega
  rw [bin_shl (by omega)]
  have e : ((1 : Int) * (2 : Int) ^ (min (((Sort.bitsLen n : Nat) : Int)).toNat IntKind.u64.bits)) = ((1 <<< Sort.bitsLen n : Nat) : Int) := by
    rw [tn0, Nat.shiftLeft_eq, Nat.min_eq_left (by simp [IntKind.bits]; omega)]
    push_cast; rfl
  rw [e, u64_wrap]
  · exact hq
  · rw [Nat.shiftLeft_eq]
    have : 2 ^ Sort.bitsLen n ≤ 2 ^ 6 := Nat.pow_le_pow_right (by omega) hl
    omega
theorem xorI (a c : UInt64) : IntKind.u64.wrap ((BitVec.ofInt IntKind.u64.bits (a.toNat : Int) ^^^ BitVec.ofInt IntKind.u64.bits (c.toNat : Int)).toNat : Int) = ((a ^^^ c).toNat : Int) := by
  have h1 : (BitVec.ofInt IntKind.u64.bits (a.toNat : Int) ^^^ BitVec.ofInt IntKind.u64.bits (c.toNat : Int)).toNat = (a ^^^ c).toNat := by
    show (BitVec.ofInt 64 (a.toNat : Int) ^^^ BitVec.ofInt 64 (c.toNat : Int)).toNat = _
    rw [BitVec.ofInt_natCast, BitVec.ofInt_natCast, BitVec.toNat_xor, UInt64.toNat_xor, BitVec.toNat_ofNat, BitVec.toNat_ofNat, Nat.mod_eq_of_lt a.toNat_lt, Nat.mod_eq_of_lt c.toNat_lt]
  rw [h1, u64_wrap (a ^^^ c).toNat_lt]
theorem shlI (a : UInt64) (k : Nat) (hk : k < 64) : IntKind.u64.wrap ((a.toNat : Int) * (2 : Int) ^ (min ((k : Nat) : Int).toNat IntKind.u64.bits)) = ((a <<< (UInt64.ofNat k)).toNat : Int) := by
  rw [tn0, Nat.min_eq_left (by simp [IntKind.bits]; omega)]
  have e : ((a.toNat : Int) * (2 : Int) ^ k) = ((a.toNat * 2 ^ k : Nat) : Int) := by push_cast; rfl
  rw [e]
  have h2 : (a <<< (UInt64.ofNat k)).toNat = a.toNat * 2 ^ k % 2 ^ 64 := by
    rw [UInt64.toNat_shiftLeft, UInt64.toNat_ofNat', Nat.shiftLeft_eq, Nat.mod_eq_of_lt (show k < 2 ^ 64 by omega), Nat.mod_eq_of_lt hk]
  rw [h2]
  simp [IntKind.wrap, IntKind.signed, IntKind.bits]
theorem shrI (a : UInt64) (k : Nat) (hk : k < 64) : (a.toNat : Int).fdiv ((2 : Int) ^ (min ((k : Nat) : Int).toNat IntKind.u64.bits)) = ((a >>> (UInt64.ofNat k)).toNat : Int) := by
  rw [tn0, Nat.min_eq_left (by simp [IntKind.bits]; omega)]
  have h2 : (a >>> (UInt64.ofNat k)).toNat = a.toNat / 2 ^ k := by
    rw [UInt64.toNat_shiftRight, UInt64.toNat_ofNat', Nat.shiftRight_eq_div_pow, Nat.mod_eq_of_lt (show k < 2 ^ 64 by omega), Nat.mod_eq_of_lt hk]
  rw [h2]
  have e : (2 : Int) ^ k = ((2 ^ k : Nat) : Int) := by push_cast; rfl
  rw [e, Int.fdiv_eq_ediv_of_nonneg _ (Int.natCast_nonneg _)]; rfl
theorem next_ok {s : Nat} {S : TypeId} {r : UInt64} {Q : Value → H → Prop} (hq : Q (.int .u64 ((Sort.xorNext r).toNat : Nat)) (HS h0 b E m d s S .u64 ((Sort.xorNext r).toNat : Nat))) :
    AM.Spec Tryz.prog 187 [.pointer (some ⟨s, 0, none⟩)] (HS h0 b E m d s S .u64 (r.toNat : Nat)) Q := by
  refine F187_spec _ _ _ ?_
  have k13 := shlI r 13 (by omega)
  simp only [F187, F187_0, F187_1, F187_2, F187_3, nil_ptr, ldC]
  rw [bin_shl (by omega)]
  have c13 : ((13 : Nat) : Int) = 13 := rfl
  have c7 : ((7 : Nat) : Int) = 7 := rfl
  have c17 : ((17 : Nat) : Int) = 17 := rfl
  rw [c13] at k13
  rw [k13, bin_xor, xorI, stC]
  generalize hr1 : r ^^^ r <<< UInt64.ofNat 13 = r1
  have k7 := shrI r1 7 (by omega)
  rw [c7] at k7
  simp only [F187_4, nil_ptr, ldC]
  rw [bin_shr (by omega), k7, bin_xor, xorI, stC]
  generalize hr2 : r1 ^^^ r1 >>> UInt64.ofNat 7 = r2
  have k17 := shlI r2 17 (by omega)
  rw [c17] at k17
  simp only [F187_5, F187_6, nil_ptr, ldC]
  rw [bin_shl (by omega), k17, bin_xor, xorI, stC]
  simp only [F187_7, nil_ptr, ldC]
  have he : r2 ^^^ r2 <<< UInt64.ofNat 17 = Sort.xorNext r := by
    rw [← hr2, ← hr1]; rfl
  rw [he]
  exact hq
theorem andI (a c : Nat) (ha : a < 18446744073709551616) (hc : c < 18446744073709551616) : IntKind.u64.wrap ((BitVec.ofInt IntKind.u64.bits (a : Int) &&& BitVec.ofInt IntKind.u64.bits (c : Int)).toNat : Int) = ((a &&& c : Nat) : Int) := by
  have h1 : (BitVec.ofInt IntKind.u64.bits (a : Int) &&& BitVec.ofInt IntKind.u64.bits (c : Int)).toNat = a &&& c := by
    show (BitVec.ofInt 64 (a : Int) &&& BitVec.ofInt 64 (c : Int)).toNat = _
    rw [BitVec.ofInt_natCast, BitVec.ofInt_natCast, BitVec.toNat_and, BitVec.toNat_ofNat, BitVec.toNat_ofNat, Nat.mod_eq_of_lt ha, Nat.mod_eq_of_lt hc]
  rw [h1, u64_wrap (Nat.lt_of_le_of_lt Nat.and_le_left ha)]
theorem bitsLen_pow {n : Nat} (h : 8 ≤ n) (h2 : n < 50) : n < 1 <<< Sort.bitsLen n ∧ 1 <<< Sort.bitsLen n ≤ 2 * n := by
  have : ∀ n, n < 50 → 8 ≤ n → n < 1 <<< Sort.bitsLen n ∧ 1 <<< Sort.bitsLen n ≤ 2 * n := by decide +kernel
  exact this n h2 h
theorem breakStep_size {a l q i : Nat} {st : UInt64 × Array Int} : (Sort.breakStep a l q st i).2.size = st.2.size := by
  unfold Sort.breakStep; simp [swp_size]
theorem break_round (hm : m ≠ .ro) {s : Nat} (hsb : s ≠ b) {x y : Nat} {st : UInt64 × Array Int} (hL : st.2.size = L) (hb : L < 50) (hxy : x + 12 < y) (hy : y ≤ L) {idx : Nat} (h1 : idx < L) {Kn : Value → Value → Value → Value → Value → Value → H → Prop} {Ke : H → Prop} {Kr : H → Prop}
    (hk : Kn (SL b L c) (.int .i64 (x : Nat)) (.int .i64 ((y - x : Nat))) (.pointer (some ⟨s, 0, none⟩)) (.int .u64 ((1 <<< Sort.bitsLen (y - x) : Nat) : Int)) (.int .i64 ((idx + 1 : Nat))) (HS h0 b E m (Sort.breakStep x (y - x) (1 <<< Sort.bitsLen (y - x)) st idx).2 s 316 .u64 ((Sort.breakStep x (y - x) (1 <<< Sort.bitsLen (y - x)) st idx).1.toNat : Nat))) :
    F175_6 (SL b L c) (.int .i64 (x : Nat)) (.int .i64 ((y - x : Nat))) (.pointer (some ⟨s, 0, none⟩)) (.int .u64 ((1 <<< Sort.bitsLen (y - x) : Nat) : Int)) (.int .i64 (idx : Nat)) (HS h0 b E m st.2 s 316 .u64 (st.1.toNat : Nat)) Kn Kr Ke := by
  obtain ⟨r, d⟩ := st
  simp only at hL
  obtain ⟨p1, p2⟩ := bitsLen_pow (n := y - x) (by omega) (by omega)
  generalize hM : 1 <<< Sort.bitsLen (y - x) = M at *
  simp only [F175_6, F175_7, F175_8]
  refine ⟨rfl, next_ok ?_⟩
  have hr := (Sort.xorNext r).toNat_lt
  generalize hrn : Sort.xorNext r = rn at *
  have e1 : ((M : Int) - 1) = ((M - 1 : Nat) : Int) := by omega
  rw [bin_sub, e1, u64_wrap (show M - 1 < 18446744073709551616 by omega), bin_and, andI _ _ hr (by omega), conv_int]
  have hle : rn.toNat &&& (M - 1) ≤ M - 1 := Nat.and_le_right
  have hbs : Sort.breakStep x (y - x) M (r, d) idx = (rn, swp d idx (x + (if rn.toNat &&& (M - 1) ≥ y - x then (rn.toNat &&& (M - 1)) - (y - x) else rn.toNat &&& (M - 1)))) := by
    unfold Sort.breakStep; simp only [hrn]
  rw [hbs] at hk
  simp only at hk
  generalize rn.toNat &&& (M - 1) = o at *
  rw [wrap64 (by omega) (by omega)]
  simp only [F175_9, F175_10, bin_geq, if_bool]
  have fin : ∀ o' : Nat, o' < y - x → (if o ≥ y - x then o - (y - x) else o) = o' → F175_11 (SL b L c) (.int .i64 (x : Nat)) (.int .i64 ((y - x : Nat))) (.pointer (some ⟨s, 0, none⟩)) (.int .u64 (M : Nat)) (.int .i64 (idx : Nat)) (.int .i64 (o' : Nat)) (HS h0 b E m d s 316 .u64 (rn.toNat : Nat))
      (fun y0 y1 y6 y7 y8 y9 h => F175_12 y0 y1 y6 y7 y8 y9 h Kn Kr Ke) Kr (fun y0 y1 y6 y7 y8 y9 h => F175_12 y0 y1 y6 y7 y8 y9 h Kn Kr Ke) Ke := by
    intro o' ho he
    rw [he] at hk
    rw [HS_AB hsb]
    rw [HS_AB hsb] at hk
    have h3 : (d.setIfInBounds idx d[x + o']!).size = L := by simpa using hL
    simp (disch := first | assumption | omega) only [F175_11, F175_12, bin_add, wrap64, ix, ld, st, tna, tn0]
    have e9 : ((idx : Int) + 1) = ((idx + 1 : Nat) : Int) := by omega
    rw [e9]
    exact hk
  by_cases hge : o ≥ y - x
  · rw [if_pos (by simp <;> omega), bin_sub]
    have e2 : ((o : Int) - ((y - x : Nat) : Int)) = ((o - (y - x) : Nat) : Int) := by omega
    rw [e2, wrap64 (by omega) (by omega)]
    exact fin _ (by omega) (if_pos hge)
  · rw [if_neg (by simp <;> omega)]
    exact fin _ (by omega) (if_neg hge)
theorem break_ok (hm : m ≠ .ro) (hL : d.size = L) (hb : L < 50) {x y : Nat} (hxy : x + 12 < y) (hy : y ≤ L) {Q : Value → H → Prop}
    (hq : Q (.tuple #[]) (AB h0 b E m (Sort.breakPatterns d x y))) : AM.Spec Tryz.prog 175 [SL b L c, .int .i64 (x : Nat), .int .i64 (y : Nat)] (AB h0 b E m d) Q := by
  refine Spec.forget ?_
  refine F175_spec _ _ _ _ _ ?_
  have e1 : ((y : Int) - (x : Int)) = ((y - x : Nat) : Int) := by omega
  simp (disch := omega) only [F175, F175_0, F175_1, bin_sub, wrap64, e1, bin_geq, if_bool]
  rw [if_pos (by simp <;> omega)]
  simp only [F175_2, conv_int, u64_wrap (show y - x < 18446744073709551616 by omega)]
  intro s hs2 hs
  obtain ⟨hsb, hs0⟩ := freshS hs
  rw [show AM.upd (AB h0 b E m d) s (.cells [.int .u64 0] 316 .exact) = HS h0 b E m d s 316 .u64 0 from rfl, stC]
  refine ⟨rfl, pow_ok (by omega) ?_⟩
  have e2 : (((y - x : Nat) : Int)).tdiv 4 = (((y - x) / 4 : Nat) : Int) := by
    rw [Int.tdiv_eq_ediv_of_nonneg (by omega)]; omega
  have e3 : (x : Int) + (((y - x) / 4 : Nat) : Int) * 2 - 1 = ((x + (y - x) / 4 * 2 - 1 : Nat) : Int) := by omega
  simp (disch := omega) only [bin_quo, e2, wrap64, bin_mul, bin_add, bin_sub, e3, F175_3, F175_4]
  have hbp : Sort.breakPatterns d x y = (Sort.breakStep x (y - x) (1 <<< Sort.bitsLen (y - x)) (Sort.breakStep x (y - x) (1 <<< Sort.bitsLen (y - x)) (Sort.breakStep x (y - x) (1 <<< Sort.bitsLen (y - x)) (UInt64.ofNat (y - x), d) (x + (y - x) / 4 * 2 - 1)) (x + (y - x) / 4 * 2 - 1 + 1)) (x + (y - x) / 4 * 2 - 1 + 2)).2 := by
    unfold Sort.breakPatterns
    simp only [show y - x ≥ 8 by omega, if_true]
  rw [hbp] at hq
  have hof : (UInt64.ofNat (y - x)).toNat = y - x := by
    rw [UInt64.toNat_ofNat', Nat.mod_eq_of_lt (by omega)]
  generalize hi0 : x + (y - x) / 4 * 2 - 1 = i0 at *
  let stp : Nat → UInt64 × Array Int := fun k => match k with
    | 0 => (UInt64.ofNat (y - x), d)
    | 1 => Sort.breakStep x (y - x) (1 <<< Sort.bitsLen (y - x)) (UInt64.ofNat (y - x), d) i0
    | 2 => Sort.breakStep x (y - x) (1 <<< Sort.bitsLen (y - x)) (Sort.breakStep x (y - x) (1 <<< Sort.bitsLen (y - x)) (UInt64.ofNat (y - x), d) i0) (i0 + 1)
    | _ => Sort.breakStep x (y - x) (1 <<< Sort.bitsLen (y - x)) (Sort.breakStep x (y - x) (1 <<< Sort.bitsLen (y - x)) (Sort.breakStep x (y - x) (1 <<< Sort.bitsLen (y - x)) (UInt64.ofNat (y - x), d) i0) (i0 + 1)) (i0 + 2)
  have hsz : ∀ k, (stp k).2.size = L := by
    intro k
    match k with
    | 0 => exact hL
    | 1 => simp only [stp, breakStep_size]; exact hL
    | 2 => simp only [stp, breakStep_size]; exact hL
    | k + 3 => simp only [stp, breakStep_size]; exact hL
  refine ⟨fun n st h => ∃ k, k ≤ 3 ∧ n = 3 - k ∧ st = (SL b L c, .int .i64 (x : Nat), .int .i64 ((y - x : Nat)), .pointer (some ⟨s, 0, none⟩), .int .u64 ((1 <<< Sort.bitsLen (y - x) : Nat) : Int), .int .i64 ((i0 + k : Nat))) ∧ h = HS h0 b E m (stp k).2 s 316 .u64 ((stp k).1.toNat : Nat),
    ⟨_, 0, by omega, rfl, rfl, by simp only [stp, hof]⟩, ?_⟩
  rintro n st h ⟨k, hk3, rfl, rfl, rfl⟩
  have e5 : (x : Int) + (((y - x) / 4 : Nat) : Int) * 2 + 1 = ((i0 + 2 : Nat) : Int) := by omega
  simp (disch := omega) only [F175_5, bin_quo, e2, wrap64, bin_mul, bin_add, e5, bin_leq, if_bool]
  by_cases hlt : k < 3
  · rw [if_pos (by simp <;> omega)]
    refine break_round hm hsb (hsz k) hb hxy hy (by omega) ?_
    refine ⟨3 - (k + 1), by omega, k + 1, by omega, rfl, by simp only [Nat.add_assoc], ?_⟩
    match k, hlt with
    | 0, _ => rfl
    | 1, _ => rfl
    | 2, _ => rfl
  · have : k = 3 := by omega
    subst this
    rw [if_neg (by simp <;> omega)]
    simp only [List.all_nil, cond_true]
    refine ⟨AB h0 b E m (stp 3).2, ?_, hq⟩
    unfold HS
    exact Sub.new (by rw [AB, upd_ne _ _ hsb]; exact hs0)
end
end Go.Proofs.YtcohcmlidmaaoaaGreat
