/-
  A function's own code by the executor, where a region that draws its order calls for a list of numbers: the call stands for the making of that list, and the order of the run is given.
-/
import Derived.Test.YtbmfblmebhobiaaGreatM9
set_option linter.unusedSimpArgs false
set_option linter.unusedVariables false
namespace Go.Proofs.YtbmfblmebhobiaaGreat.AM
noncomputable section
section
variable {P : Program} {C : CallF} {Y : YieldF} {ops : Array Oper}
def e_anyP (P : Program) (C : CallF) (Y : YieldF) (ops : Array Oper) (pl : List (Nat × Nat)) (t : XT) (h : EH) (n : Nat) : Option (XT × EH × Nat) :=
  bif statOk P ops pl (nthN (pmL ops)) then
    (match e_snaps P C Y ops pl t h n with
    | some (ss, r) => bif dynOk P C Y ops (nthN (pmL ops)) ss then some r else none
    | none => none) else none
theorem e_anyP_ok {pl : List (Nat × Nat)} (hC : CallOk P C) (hY : YieldOk P Y) {N : Nat} (hall : ops.toList.all (okOper N) = true) {t : XT} {T : T} {eh : EH} {n : Nat} {h : H} {F : H} {ρ : Ren} {r : XT × EH × Nat} {K : AM.T → H → Prop}
    (hs : XSim F ρ n eh h) (ht : TR ρ t T) (he : e_anyP P C Y ops pl t eh n = some r) (hk : ∀ ρ' T' h', ρ.le ρ' → XSim F ρ' r.2.2 r.2.1 h' → TR ρ' r.1 T' → T' N = T N → K T' h') :
    aAny P ops K ops.size (Array.replicate ops.size false) T h := by
  unfold e_anyP at he
  cases hst : statOk P ops pl (nthN (pmL ops))
  · rw [hst] at he; cases he
  · rw [hst, cond_true] at he
    split at he
    · rename_i ss q hss
      obtain ⟨tf, ef, nf⟩ := q
      cases hdy : dynOk P C Y ops (nthN (pmL ops)) ss
      · rw [hdy] at he; cases he
      · rw [hdy] at he; cases he
        simp only [statOk, Bool.and_eq_true] at hst
        obtain ⟨⟨s1, s2⟩, s3⟩ := hst
        obtain ⟨g1, g2, g3, g4, g5, g6, g7⟩ := snaps_ok hall _ s1 s2 hss
        refine any_ok (N := N) (pm := nthN (pmL ops)) (F := F) (ρ0 := ρ) (T0 := T) (tf := tf) (ef := ef) (nf := nf) hC hY hk ops.size (rem := ss.map fun s => (s, none)) (ρ := ρ) (F' := F) (eh := eh) (n := n) ?_ ?_
        · refine ⟨?_, by simp, ?_, ?_, ?_, Ren.le_refl ρ, fun _ _ h => h, hs, g3, g4, ?_, ?_, ?_, ?_, rfl⟩
          · intro i hi
            constructor
            · intro hl; simp [Array.getD, hi] at hl
            · intro hno
              exfalso
              apply hno
              have := List.all_eq_true.1 s3 i (List.mem_range.2 hi)
              rw [memN_iff, ← g1] at this
              simp only [List.map_map, List.mem_map, Function.comp] at this
              obtain ⟨s, hs1, hs2⟩ := this
              exact ⟨s, List.mem_map.2 ⟨s, hs1, rfl⟩, hs2⟩
          · intro i hl
            simp only [Array.getD] at hl
            split at hl
            · simp at hl
            · cases hl
          · intro it hit
            obtain ⟨s, hs1, rfl⟩ := List.mem_map.1 hit
            exact g2 s hs1
          · have : (ss.map fun s => ((s, none) : Item)).map (·.1) = ss := by
              rw [List.map_map]; exact List.map_id ss
            rw [this]; exact g6 hdy
          · intro s hsm d hd v hv
            obtain ⟨s', hs1, e⟩ := List.mem_map.1 hsm
            cases e
            rcases g7 s hs1 d hd v hv with k1 | ⟨u, hu, k1, k2⟩
            · exact .inl (ht d v k1)
            · exact .inr ⟨(u, none), List.mem_map.2 ⟨u, hu, rfl⟩, k1, k2⟩
          · intro d v hv
            cases Classical.em (∃ s ∈ ss, s.o.dst = some d) with
            | inl hex =>
              obtain ⟨s, hs1, hs2⟩ := hex
              exact .inr ⟨(s, none), List.mem_map.2 ⟨s, hs1, rfl⟩, hs2⟩
            | inr hno =>
              have := (g5 d (fun s hs1 hs2 => hno ⟨s, hs1, hs2⟩)).1
              rw [this] at hv
              exact .inl (ht d v hv)
          · intro s b hsm
            obtain ⟨s', hs1, e⟩ := List.mem_map.1 hsm
            cases e
          · intro s b s' b' hsm
            obtain ⟨s', hs1, e⟩ := List.mem_map.1 hsm
            cases e
        · have hr : restL ops.size (Array.replicate ops.size false) = List.range ops.size := by
            unfold restL
            refine List.filter_eq_self.2 fun j hj => ?_
            have := List.mem_range.1 hj
            simp [Array.getD, this]
          rw [hr]; simp
    · cases he

/-! ### A call that makes a list of numbers -/
def litOf (f : Nat) (ty : TypeId) (m : Nat) (ps : Array (Nat × Operand)) (o : Oper) : Oper :=
  match o.guard, o.op with
  | none, .call c => (match c.callee, c.args with
    | .value (.func g), ⟨[]⟩ => bif Nat.beq g f then { o with op := .buildSlice ty m ps } else o
    | _, _ => o)
  | _, _ => o
structure IsLit (P : Program) (f : Nat) (ty : TypeId) (m : Nat) (ps : Array (Nat × Operand)) : Prop where
  body : hasBody P f = true
  spec : ∀ (t : T) (h : H) (K : Value → H → Prop), o_buildSlice P ty m (ps.toList.map fun p => (p.1, aev t p.2)) h K → Spec P f [] h K
variable {f : Nat} {ty : TypeId} {m : Nat} {ps : Array (Nat × Operand)}
theorem litOf_same (o : Oper) : (litOf f ty m ps o).dst = o.dst ∧ (litOf f ty m ps o).guard = o.guard ∧ (litOf f ty m ps o).after = o.after := by
  unfold litOf
  split
  · split
    · cases Nat.beq _ f <;> exact ⟨rfl, rfl, rfl⟩
    · exact ⟨rfl, rfl, rfl⟩
  · exact ⟨rfl, rfl, rfl⟩
theorem litOf_op (hl : IsLit P f ty m ps) {o : Oper} {t : T} {h : H} {K : Value → H → Prop} (ho : aop P (litOf f ty m ps o).op (aev t) h K) : aop P o.op (aev t) h K := by
  unfold litOf at ho
  split at ho
  · rename_i c hg hop
    split at ho
    · rename_i g hc ha
      cases hb : Nat.beq g f
      · rw [hb] at ho; exact ho
      · rw [hb, cond_true] at ho
        obtain rfl := Nat.eq_of_beq_eq_true hb
        rw [hop]
        show aCall P c (aev t) h K
        unfold aCall
        have ha' : c.args.toList = [] := by rw [ha]
        rw [hc, ha']
        simp only [hl.body, cond_true, List.map_nil]
        exact ⟨rfl, hl.spec t h K ho⟩
    · exact ho
  · exact ho
theorem map_get {g : Oper → Oper} (i : Nat) : (ops.map g)[i]? = (ops[i]?).map g := by simp
theorem litOf_guard (j : Nat) (t : T) : guardVal (ops.map (litOf f ty m ps)) j t = guardVal ops j t := by
  unfold guardVal
  rw [map_get]
  cases ops[j]? with
  | none => rfl
  | some o => simp only [Option.map_some, Option.bind_some, (litOf_same o).1]
theorem litOf_step (hl : IsLit P f ty m ps) {i : Nat} {K : T → H → Prop} {t : T} {h : H} (ho : aStep P (ops.map (litOf f ty m ps)) i K t h) : aStep P ops i K t h := by
  unfold aStep at *
  rw [map_get] at ho
  cases hi : ops[i]? with
  | none => rw [hi] at ho; exact ho
  | some o =>
    rw [hi] at ho
    simp only [Option.map_some, (litOf_same o).1, (litOf_same o).2.1, litOf_guard] at ho ⊢
    cases hg : o.guard with
    | none => rw [hg] at ho; exact litOf_op hl ho
    | some p =>
      obtain ⟨j, want⟩ := p
      rw [hg] at ho
      have : litOf f ty m ps o = o := by unfold litOf; rw [hg]
      rw [this] at ho
      exact ho
theorem litOf_ready (listed : Array Bool) : Region.ready .any (ops.map (litOf f ty m ps)) listed = Region.ready .any ops listed := by
  unfold Region.ready
  simp only [Array.size_map, map_get]
  congr 1
  funext i
  cases ops[i]? with
  | none => rfl
  | some o => simp only [Option.map_some, (litOf_same o).2.2]
theorem litOf_any (hl : IsLit P f ty m ps) {K : T → H → Prop} : ∀ (n : Nat) {listed : Array Bool} {t : T} {h : H}, aAny P (ops.map (litOf f ty m ps)) K n listed t h → aAny P ops K n listed t h
  | 0, listed, t, h, ho => by
    unfold aAny at *
    rw [litOf_ready] at ho; exact ho
  | n + 1, listed, t, h, ho => by
    unfold aAny at *
    rw [litOf_ready] at ho
    exact ⟨ho.1, fun i hi => litOf_step hl (aStep_mono (fun _ _ h => litOf_any hl n h) (ho.2 i hi))⟩

/-! ### The run of a function's own code -/
def runW (P : Program) (C : CallF) (Y : YieldF) (run : RunF) (g : Oper → Oper) (pl : List (Nat × Nat)) : Nat → RunF
  | 0, N, c, s => run N c s
  | k + 1, N, c, s => match c with
    | .seq a b => (match runW P C Y run g pl k N a s with
      | some (.normal, s) => runW P C Y run g pl k N b s
      | r => r)
    | .region id ops true => bif (ops.map g).toList.all (okOper N) then (match e_anyP P C Y (ops.map g) pl s.t.flush s.h s.n with
      | some (t, h, n) => some (.normal, ⟨t, h, n, s.ms⟩)
      | none => run N (.region id ops true) s) else run N (.region id ops true) s
    | c => run N c s
theorem runW_ok {run : RunF} (hC : CallOk P C) (hY : YieldOk P Y) (hR : RunOk P run) (hl : IsLit P f ty m ps) (pl : List (Nat × Nat)) : ∀ k, RunOk P (runW P C Y run (litOf f ty m ps) pl k)
  | 0 => hR
  | k + 1 => by
    have ih := runW_ok hC hY hR hl pl k
    intro N rd c s e s' he hok F ρ h T Q hs hk
    unfold runW at he
    split at he
    · rename_i a b
      have hok' : okCode N rd a = true ∧ okCode N rd b = true := by simpa [okCode] using hok
      show awp P N a (athen (awp P N b Q) Q) T h
      split at he
      · rename_i s1 h1
        refine ih _ _ _ _ _ _ h1 hok'.1 F ρ h T _ hs fun ρ1 T1 h2 hle1 hs1 => ?_
        exact ih _ _ _ _ _ _ he hok'.2 F ρ1 h2 T1 _ hs1 fun ρ2 T2 h3 hle2 hs2 => hk ρ2 T2 h3 (Ren.le_trans hle1 hle2) hs2
      · rename_i hn
        refine ih _ _ _ _ _ _ he hok'.1 F ρ h T _ hs fun ρ1 T1 h2 hle1 hs1 => ?_
        have := hk ρ1 T1 h2 hle1 hs1
        cases e with
        | normal => exact (hn s' he).elim
        | ret => exact this
        | exit j => exact this
    · rename_i id ops'
      cases hall : (ops'.map (litOf f ty m ps)).toList.all (okOper N)
      · rw [hall, cond_false] at he
        exact hR _ _ _ _ _ _ he hok F ρ h T Q hs hk
      · rw [hall, cond_true] at he
        split at he
        · rename_i t h' n' hany
          cases he
          show bif true then _ else _
          rw [cond_true]
          obtain ⟨hs1, hs2, hs3⟩ := hs.flush
          have := e_anyP_ok (K := Q .normal) hC hY hall hs1 hs2 hany fun ρ' T' h'' hle hs' ht' hN => hk ρ' T' h'' hle ⟨hs', ht', by rw [hN]; exact hs3.mono hle⟩
          rw [Array.size_map] at this
          exact litOf_any hl _ this
        · exact hR _ _ _ _ _ _ he hok F ρ h T Q hs hk
    · exact hR _ _ _ _ _ _ he hok F ρ h T Q hs hk
/-- A function without arguments that answers true, its own code run so. -/
def runEW (P : Program) (S : CallF) (M : Nat → Nat) (g : Oper → Oper) (pl : List (Nat × Nat)) (fuel f : Nat) : Res :=
  xcall P S M (runW P (k_call P S M (kev P S M fuel)) (fun _ _ _ _ => none) (kev P S M fuel) g pl 40) f [] .nil 2
theorem noY : YieldOk P (fun _ _ _ _ => none) := fun _ _ _ _ _ he => by cases he
theorem spec_trueW (hm : P.follows .mixedOrders = true) {S : CallF} {M : Nat → Nat} (hS : CallOk P S) {fuel g : Nat} {pl : List (Nat × Nat)} (hl : IsLit P f ty m ps) (he : okT (runEW P S M (litOf f ty m ps) pl fuel g) = true) (h : H) : Spec P g [] h fun v h' => v = .bool true ∧ Sub h h' := by
  obtain ⟨eh, n, hr⟩ := okT_some he
  unfold runEW at hr
  rw [kev_eq, k_call_eq] at hr
  have hR := ev_ok hm hS (M := M) fuel
  refine (xcall_ok hm hS (runW_ok (xcall_ok hm hS hR) noY hR hl pl 40) g [] .nil 2 _ hr h ρ0 h [] (XSim.start h) .nil).mono ?_
  rintro v h' ⟨ρ', _, hs, hv⟩
  refine ⟨?_, fun b o hb => hs.fr b o hb⟩
  cases hv with | a hv => exact hv.toC.self_eq rfl
end
end
end Go.Proofs.YtbmfblmebhobiaaGreat.AM
