/-
  sameMem at two memories of the same pages.
-/
import Derived.Test.YtcohcmlidmaaoaaGreatSMP
import Derived.Test.YtcohcmlidmaaoaaGreatEQ
import Derived.Test.YtcohcmlidmaaoaaGreatMM
set_option linter.unusedSimpArgs false
set_option linter.unusedVariables false
set_option maxRecDepth 100000
namespace Go.Proofs.YtcohcmlidmaaoaaGreat
open AM
def pgs (l : List (List Value)) : Prop := ∀ x ∈ l, selfV (.agg x.toArray) = true ∧ rOk Tryz.prog 10 183 (.agg x.toArray) = true
theorem pgGuard : Tryz.prog.eqGuardType Tryz.prog.depth 183 = false := by kernel_rfl
theorem pg_fields : (Tryz.prog.fieldsOf 183).toList.map (fun f => (f.type, f.offset)) = [(27, 0), (3, 1), (181, 2)] := by kernel_rfl
theorem pg_rOk {a p : Int} {bs : List Value} (hb : ∀ v ∈ bs, ∃ x : Int, v = .int .u8 x) (hl : bs.length = 256) : rOk Tryz.prog 10 183 (.agg (Value.int .u32 a :: Value.int .i64 p :: bs).toArray) = true := by
  refine rOk_struct (d := 9) (by kernel_rfl) (by kernel_rfl) ?_
  rw [pg_fields]
  intro q hq
  simp only [List.mem_cons, List.not_mem_nil, or_false] at hq
  rcases hq with rfl | rfl | rfl
  · exact ⟨_, pr_part (d := .int .u32) (by kernel_rfl) rfl rfl, rOk_int (k := .u32) (by kernel_rfl)⟩
  · exact ⟨_, pr_part (d := .int .i64) (by kernel_rfl) rfl rfl, rOk_int (k := .i64) (by kernel_rfl)⟩
  · refine ⟨_, pr_partA (n := 256) (by kernel_rfl) (by kernel_rfl), rOk_arr (d := 7) (len := 256) (elem := 5) (k := .u8) (by kernel_rfl) (by kernel_rfl) (by kernel_rfl) fun i hi => ?_⟩
    have hx : bs[i]? = some (bs[i]'(by omega)) := List.getElem?_eq_getElem (by omega)
    obtain ⟨x, hx2⟩ := hb (bs[i]'(by omega)) (List.getElem_mem _)
    refine ⟨.u8, x, ?_⟩
    rw [hx2] at hx
    have e : (Value.int .u32 a :: Value.int .i64 p :: bs)[2 + i]? = some (.int .u8 x) := by
      rw [Nat.add_comm]; simpa using hx
    simp only [Array.getElem?_extract]
    simp only [List.size_toArray, List.length_cons, hl]
    rw [if_pos (by omega)]
    simpa using e
theorem pg_self {a p : Int} {bs : List Value} (hb : ∀ v ∈ bs, ∃ x : Int, v = .int .u8 x) : selfV (.agg (Value.int .u32 a :: Value.int .i64 p :: bs).toArray) = true := by
  simp only [selfV, selfA, List.all_cons, selfC, Bool.true_and, List.all_eq_true]
  intro v hv
  obtain ⟨x, rfl⟩ := hb v hv
  rfl
theorem pg_load {h : H} {v : Value} {l : List (List Value)} (hs : Sl (fun x => x) 258 h v l) {i : Nat} (hi : i < l.length) {K : Value → Prop} : (o_indexAddr none 258 v (.int .i64 i) fun p => o_load true 258 p h K) = K (.agg l[i].toArray) := by
  obtain ⟨b, o, h1, h2⟩ := hs.at hi
  rw [h1, load_agg h2]
theorem sameMem_spec {h : H} {a b : Nat} {v1 v2 : Value} {l : List (List Value)} (ha : AM.cellAt h a 1 = some v1) (hb : AM.cellAt h b 1 = some v2) (h1 : Sl (fun x => x) 258 h v1 l) (h2 : Sl (fun x => x) 258 h v2 l) (hlen : l.length < 1000) (hr : pgs l) {K : Value → H → Prop} (hk : K (.bool true) h) :
    AM.Spec Tryz.prog 25 [.pointer (some ⟨a, 0, none⟩), .pointer (some ⟨b, 0, none⟩)] h K := by
  refine F25_spec _ _ _ _ ?_
  unfold F25 F25_0 F25_1 F25_2 F25_3
  simp only [nil_ptr, field_addr, Nat.zero_add, load_cell ha, load_cell hb, h1.len, h2.len, bin_neq, decide_true, Bool.not_true]
  unfold F25_4
  rw [if_false']
  unfold F25_5 F25_6 F25_7 F25_8
  refine ⟨fun m s h' => h' = h ∧ ∃ i : Nat, i ≤ l.length ∧ m = l.length - i ∧ s = (.pointer (some ⟨a, 0, none⟩), .pointer (some ⟨b, 0, none⟩), .int .i64 (i : Nat)), ⟨l.length, rfl, 0, by omega, rfl, rfl⟩, ?_⟩
  rintro m s h' ⟨rfl, i, hi, rfl, rfl⟩
  simp only [F25_9, nil_ptr, field_addr, Nat.zero_add, load_cell ha, h1.len, bin_lss]
  by_cases hlt : i < l.length
  · have d1 : decide ((i : Int) < (l.length : Int)) = true := by simp; omega
    rw [d1, if_true']
    unfold F25_10 F25_11 F25_12 F25_13
    obtain ⟨r1, r2⟩ := hr l[i] (List.getElem_mem hlt)
    simp only [nil_ptr, field_addr, Nat.zero_add, load_cell ha, load_cell hb]
    rw [pg_load h1 hlt, pg_load h2 hlt, bin_reflN pgGuard r1 (by decide) r2]
    unfold F25_14
    rw [if_false']
    unfold F25_15
    try dsimp only
    rw [bin_add]
    have e5 : IntKind.i64.wrap ((i : Int) + 1) = ((i + 1 : Nat) : Int) := by rw [wrap64 (by omega) (by omega)]; omega
    rw [e5]
    exact ⟨l.length - (i + 1), by omega, rfl, i + 1, by omega, rfl, rfl⟩
  · have d1 : decide ((i : Int) < (l.length : Int)) = false := by simp; omega
    rw [d1, if_false']
    exact hk
end Go.Proofs.YtcohcmlidmaaoaaGreat
