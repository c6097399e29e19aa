/-
  Pages of a memory, for the executor.
-/
import Derived.Test.YtcohcmlidmaaoaaGreatPG1
import Derived.Test.YtcohcmlidmaaoaaGreatK1
set_option linter.unusedVariables false
set_option linter.unusedSimpArgs false
set_option maxRecDepth 100000
namespace Go.Proofs.YtcohcmlidmaaoaaGreat
open Go.Proofs.YtcohcmlidmaaoaaGreat.AM
noncomputable section
def insN (x : Nat) : List Nat → List Nat
  | [] => [x]
  | y :: l => bc (Nat.ble x y) (x :: y :: l) (y :: insN x l)
def keysN : List (Value × XA) → Option (List Nat)
  | [] => some []
  | e :: es => (match e.1, keysN es with
    | .int .u32 (.ofNat x), some l => some (insN x l)
    | _, _ => none)
def u32s (l : List Nat) : List Value := l.map fun x => .int .u32 (.ofNat x)
def s_pages : CallF := fun g args eh n => bc (Nat.beq g 59) (match args with
  | [.c (.pointer (some ⟨mb, mo, none⟩))] => (match cellX eh mb (mo + 1) with
    | some (.map (some pm)) => (match eh.get pm with
      | some (.map (.int .u32) es _) => (match keysN es with
        | some zs => bc (Nat.blt 0 zs.length) (bc (Nat.blt zs.length 50) (some (.a (.c (.slice (some ⟨n, 0, none⟩) zs.length zs.length)), eh.set n (.cells (R.ofL (u32s zs)) 27 .open), n + 1)) none) none
        | none => none)
      | _ => none)
    | _ => none)
  | _ => none) none
theorem insN_perm (x : Nat) : ∀ l, (insN x l).Perm (x :: l)
  | [] => .refl _
  | y :: l => by
    unfold insN
    cases h : Nat.ble x y
    · exact ((insN_perm x l).cons y).trans (.swap _ _ _)
    · exact .refl _
theorem insN_sorted (x : Nat) : ∀ {l : List Nat}, l.Pairwise (· ≤ ·) → (insN x l).Pairwise (· ≤ ·)
  | [], _ => List.pairwise_singleton _ _
  | y :: l, h => by
    unfold insN
    have h' := List.pairwise_cons.1 h
    cases e : Nat.ble x y
    · refine .cons (fun z hz => ?_) (insN_sorted x h'.2)
      rcases List.mem_cons.1 ((insN_perm x l).subset hz) with rfl | hz
      · have : ¬ z ≤ y := fun q => by rw [Nat.ble_eq_true_of_le q] at e; cases e
        omega
      · exact h'.1 _ hz
    · have hxy := Nat.le_of_ble_eq_true e
      refine .cons (fun z hz => ?_) h
      rcases List.mem_cons.1 hz with rfl | hz
      · exact hxy
      · have := h'.1 _ hz; omega
theorem keysN_ok : ∀ {es : List (Value × XA)} {zs : List Nat}, keysN es = some zs → zs.Pairwise (· ≤ ·) ∧ (u32s zs).Perm (es.map (·.1)) ∧ ∀ e ∈ es, kkHas (.int .u32) e.1 = true
  | [], zs, h => by cases h; exact ⟨.nil, .refl _, fun _ h => by cases h⟩
  | e :: es, zs, h => by
    unfold keysN at h
    split at h
    · rename_i k m x l hx hl
      cases h
      obtain ⟨h1, h2, h3⟩ := keysN_ok hl
      refine ⟨insN_sorted x h1, ?_, ?_⟩
      · rw [List.map_cons, hx]
        exact ((insN_perm x l).map _).trans (h2.cons _)
      · intro e' he
        rcases List.mem_cons.1 he with rfl | he
        · rw [hx]; rfl
        · exact h3 _ he
    · cases h
section
variable {F : H} {ρ : Ren} {n : Nat} {eh : EH} {h h' : H}
theorem xsub (hs : XSim F ρ n eh h) (hh : Sub h h') : XSim F ρ n eh h' :=
  ⟨hs.z0, hs.z1, hs.two, hs.top, hs.n2, fun b o hb hd => by
    obtain ⟨b', τ, o', h1, h2, h3⟩ := hs.obj b o hb hd
    exact ⟨b', τ, o', h1, hh _ _ h2, h3⟩, hs.inj, fun c o hc => hh _ _ (hs.fr c o hc), hs.fsep⟩
theorem xgrow (hs : XSim F ρ n eh h) (hh : Sub h h') {b : Nat} {o : EO} {o' : AObj} (h2 : 2 ≤ b) (hb : h b = none) (hb' : h' b = some o') (ho : RO ρ undefT o o') : ∃ ρ', ρ.le ρ' ∧ ρ' n = some (b, undefT) ∧ XSim F ρ' (n + 1) (eh.set n o) h' := by
  obtain ⟨k1, k2⟩ := (xsub hs hh).name h2 undefT
  refine ⟨_, k1, by simp, k2.put (b := n) (τ := undefT) (by simp) hb' (ho.mono k1) ?_ ?_⟩
  · cases hF : F b with
    | none => rfl
    | some q => rw [hs.fr _ _ hF] at hb; cases hb
  · intro c p t hc hg hd hρ
    simp only [if_neg hc] at hρ
    obtain ⟨b', τ, q, e1, e2, _⟩ := hs.obj c p hg hd
    rw [hρ] at e1
    cases e1
    rw [hb] at e2; cases e2
theorem all2_self {l : List Value} (h : ∀ v ∈ l, selfC v = true) : All2 (RC ρ) l l := by
  induction l with
  | nil => exact .nil
  | cons a l ih => exact .cons (.of_self (h a (.head _))) (ih fun v hv => h v (.tail _ hv))
theorem rm_keys {es : List (Value × XA)} {es' : List (Value × Value)} (h : RM ρ es es') : (es'.map (·.1)).Perm (es.map (·.1)) := by
  obtain ⟨l0, hA, hP, hD⟩ := h
  refine (hP.symm.map _).trans ?_
  have : l0.map (·.1) = es.map (·.1) := by
    clear hP hD
    induction hA with
    | nil => rfl
    | cons h1 t ih => rw [List.map_cons, List.map_cons, ih, h1.1]
  rw [this]
end
theorem s_pages_ok : CallOk Tryz.prog s_pages := by
  intro g args eh n r he F ρ h args' hs ha
  unfold s_pages at he
  cases hf : Nat.beq g 59
  · rw [hf] at he; cases he
  rw [hf, bc_true] at he
  obtain rfl := Nat.eq_of_beq_eq_true hf
  split at he
  rotate_left
  · cases he
  rename_i mb mo
  split at he
  rotate_left
  · cases he
  rename_i pm hc
  split at he
  rotate_left
  · cases he
  rename_i es ck hg
  split at he
  rotate_left
  · cases he
  rename_i zs hz
  cases h1 : Nat.blt 0 zs.length
  · rw [h1] at he; cases he
  cases h2 : Nat.blt zs.length 50
  · rw [h1, h2] at he; cases he
  rw [h1, h2, bc_true, bc_true] at he
  cases he
  cases ha with
  | cons ha1 t =>
    cases t
    obtain ⟨mb', tm, hmb, rfl⟩ := ha1.toC.ptr
    obtain ⟨v1, hv1, hr1⟩ := cellX_of hs hmb hc
    obtain ⟨pm', tp, hpmρ, rfl⟩ := hr1.mp
    obtain ⟨es', hpm', hrm⟩ := hs.map hg hpmρ
    obtain ⟨k1, k2, k3⟩ := keysN_ok hz
    have hp := rm_keys hrm
    have hl : zs.length = es'.length := by
      have e1 := k2.length_eq
      have e2 := hp.length_eq
      simp [u32s] at e1 e2
      omega
    have hb1 := Nat.le_of_ble_eq_true h1
    have hb2 := Nat.le_of_ble_eq_true h2
    have hm : (zs.map Int.ofNat).map (Value.int .u32 ·) = u32s zs := by rw [List.map_map]; rfl
    refine pages_ok (zs := zs.map Int.ofNat) hv1 hpm' hrm.dist (fun e he => ?_) (by omega) (fun e => by rw [e, List.length_nil] at hl; omega) ?_ ?_ fun b h' q1 q2 q3 q4 => ?_
    · obtain ⟨x, hx, hx2⟩ := List.mem_map.1 (hp.subset (List.mem_map.2 ⟨e, he, rfl⟩))
      rw [← hx2]; exact k3 _ hx
    · exact List.pairwise_map.2 (k1.imp fun h => by simp only [Int.ofNat_eq_natCast]; omega)
    · rw [hm]; exact k2.trans hp.symm
    · rw [hm] at q4
      obtain ⟨ρ', g1, g2, g3⟩ := xgrow hs q3 (o := .cells (R.ofL (u32s zs)) 27 .open) q1 q2 q4 (.cells (by
        rw [R.ofL_toL]
        refine all2_self fun v hv => ?_
        obtain ⟨x, _, rfl⟩ := List.mem_map.1 hv
        rfl))
      rw [List.length_map]
      exact ⟨ρ', g1, g3, .a (.c (.s (.slice g2)))⟩
end
end Go.Proofs.YtcohcmlidmaaoaaGreat
