/-
  Regions that draw their order, for the executor: the theorem; the run of a region in one order, with what is looked at.
-/
import Derived.Test.YtjdhldfeflmneaaGreatXR2
set_option linter.unusedSimpArgs false
set_option linter.unusedVariables false
namespace Go.Proofs.YtjdhldfeflmneaaGreat.AM
noncomputable section

section
variable {P : Program} {C : CallF} {Y : YieldF} {ops : Array Oper} {N : Nat} {pm : Nat → Nat} {F : H} {ρ0 : Ren} {T0 : T} {tf : XT} {ef : EH} {nf : Nat}

theorem mem_split {rem : List Item} {x : Item} (h : x ∈ rem) : ∃ A B, rem = A ++ x :: B := List.append_of_mem h
theorem ready_iff {listed : Array Bool} {i : Nat} {o : Oper} (ho : ops[i]? = some o) : i ∈ Region.ready .any ops listed ↔ i < ops.size ∧ listed.getD i true = false ∧ ∀ e ∈ o.after.toList, Region.binds .any e = true → listed.getD e.on false = true := by
  simp only [Region.ready, List.mem_filter, List.mem_range, Bool.and_eq_true, ho, Option.map_some, Option.getD_some, Array.all_eq_true_iff_forall_mem]
  constructor
  · rintro ⟨h1, h2, h3⟩
    refine ⟨h1, by simpa using h2, fun e he hb => ?_⟩
    have := h3 e (by simpa using he)
    rw [hb] at this
    simpa using this
  · rintro ⟨h1, h2, h3⟩
    refine ⟨h1, by simpa using h2, fun e he => ?_⟩
    cases hb : Region.binds .any e with
    | false => rfl
    | true => have := h3 e (by simpa using he) hb; simp [this]
theorem getD_any {listed : Array Bool} {i : Nat} (hi : i < listed.size) (a b : Bool) : listed.getD i a = listed.getD i b := by
  simp [Array.getD, hi]

/-- The first that is not done may be done. -/
theorem Inv.first {ρ : Ren} {F' : H} {eh : EH} {n : Nat} {rem : List Item} {listed : Array Bool} {T : T} {h : H} (hi : Inv P C Y ops N pm F ρ0 T0 tf ef nf ρ F' eh n rem listed T h)
    (hr : Region.ready .any ops listed = []) : ∀ it ∈ rem, it.2 ≠ none := by
  have key : ∀ (B A : List Item), rem = A ++ B → (∀ it ∈ A, it.2 ≠ none) → ∀ it ∈ B, it.2 ≠ none := by
    intro B
    induction B with
    | nil => intro A _ _ it hit; cases hit
    | cons x B ih =>
      intro A he hA
      have hx : x.2 ≠ none := by
        intro hx
        obtain ⟨s, fl⟩ := x
        simp only at hx
        subst hx
        subst he
        have hm : (s, none) ∈ A ++ (s, none) :: B := by simp
        have hsn := hi.sn _ hm
        simp only at hsn
        obtain ⟨p1, p2, p3⟩ := pw_parts hi.pw
        have hlt := hi.lt hm
        have : s.i ∈ Region.ready .any ops listed := by
          refine (ready_iff hsn.op).2 ⟨hlt, ?_, fun e he hb => ?_⟩
          · rw [getD_any (by rw [hi.size]; exact hlt) true false]; exact hi.todo hm
          · obtain ⟨b1, b2⟩ := hsn.bnd e he hb
            refine (hi.lst _ b2).2 ?_
            rintro ⟨u, hu, hui⟩
            rcases List.mem_append.1 hu with h1 | h1
            · exact hA _ h1 rfl
            · rcases List.mem_cons.1 h1 with h1 | h1
              · cases h1
                have := p1
                have hself : bitAt (pm s.i) s.i = true := by rw [← hui] at b1; exact b1
                exact hi.noself s hm hself
              · have := (p2 _ h1).later
                simp only at this
                rw [hui, b1] at this; cases this
        rw [hr] at this; cases this
      intro it hit
      rcases List.mem_cons.1 hit with rfl | hit
      · exact hx
      · exact ih (A ++ [x]) (by rw [he]; simp) (fun y hy => by
          rcases List.mem_append.1 hy with hy | hy
          · exact hA y hy
          · rw [List.mem_singleton.1 hy]; exact hx) it hit
  exact key rem [] rfl (fun it hit => by cases hit)

theorem any_ok (hC : CallOk P C) (hY : YieldOk P Y) {K : AM.T → H → Prop} (hK : ∀ ρ' T' h', ρ0.le ρ' → XSim F ρ' nf ef h' → TR ρ' tf T' → T' N = T0 N → K T' h') :
    ∀ (fuel : Nat) {listed : Array Bool} {rem : List Item} {ρ : Ren} {F' : H} {eh : EH} {n : Nat} {T : AM.T} {h : H}, Inv P C Y ops N pm F ρ0 T0 tf ef nf ρ F' eh n rem listed T h →
      (restL ops.size listed).length = fuel → aAny P ops K fuel listed T h := by
  have final : ∀ {listed : Array Bool} {rem : List Item} {ρ : Ren} {F' : H} {eh : EH} {n : Nat} {T : AM.T} {h : H}, Inv P C Y ops N pm F ρ0 T0 tf ef nf ρ F' eh n rem listed T h → (∀ it ∈ rem, it.2 ≠ none) → K T h := by
    intro listed rem ρ F' eh n T h hi hall
    have hi' : Inv P C Y ops N pm F ρ0 T0 tf ef nf ρ F' eh n ([] ++ (rem ++ [])) listed T h := by simpa using hi
    obtain ⟨ρ', F'', eh', n', A, g1, g2, g3⟩ := Inv.absorbAll rem [] (fun it hit => by cases hit) (fun it hit _ => hall it hit) hi'
    have hA : A = [] := by
      cases A with
      | nil => rfl
      | cons a A =>
        have h1 := g1.todoK (a := a) (by simp) (g2 a (.head _))
        have h2 := hall a (by have := g3 a (.head _); simpa using this)
        exact absurd h1 h2
    subst hA
    simp only [List.nil_append] at g1
    obtain ⟨e1, e2⟩ := g1.hc
    subst e1; subst e2
    refine hK ρ' T h g1.le (g1.sim.weaken g1.fr) (fun d v hv => ?_) g1.tN
    rcases g1.fok d v hv with h1 | ⟨it, hit, _⟩
    · exact h1
    · cases hit
  intro fuel
  induction fuel with
  | zero =>
    intro listed rem ρ F' eh n T h hi hn
    have he := List.length_eq_zero_iff.1 hn
    have hno : ∀ it ∈ rem, it.2 ≠ none := by
      intro it hit h0
      obtain ⟨s, fl⟩ := it
      simp only at h0
      subst h0
      have h1 := hi.todo hit
      have h2 := hi.lt hit
      have : s.i ∈ restL ops.size listed := by
        refine List.mem_filter.2 ⟨List.mem_range.2 h2, ?_⟩
        rw [getD_any (by rw [hi.size]; exact h2) true false, h1]; rfl
      rw [he] at this; cases this
    refine ⟨?_, final hi hno⟩
    cases hr : Region.ready .any ops listed with
    | nil => rfl
    | cons a r =>
      have hm : a ∈ Region.ready .any ops listed := by rw [hr]; exact .head _
      simp only [Region.ready, List.mem_filter, Bool.and_eq_true] at hm
      have : a ∈ restL ops.size listed := List.mem_filter.2 ⟨hm.1, hm.2.1⟩
      rw [he] at this; cases this
  | succ fuel ih =>
    intro listed rem ρ F' eh n T h hi hn
    refine ⟨fun hr => final hi (hi.first hr), fun i him => ?_⟩
    have him2 := him
    simp only [Region.ready, List.mem_filter, List.mem_range, Bool.and_eq_true] at him2
    have hlt : i < ops.size := him2.1
    have hun : listed.getD i false = false := by
      have := him2.2.1
      rw [getD_any (by rw [hi.size]; exact hlt) true false] at this
      simpa using this
    obtain ⟨s, hs, rfl⟩ : ∃ s, (s, none) ∈ rem ∧ s.i = i := by
      cases Classical.em (∃ s, (s, none) ∈ rem ∧ s.i = i) with
      | inl h => exact h
      | inr h => have := (hi.lst i hlt).2 h; rw [hun] at this; cases this
    have hfuel : (restL ops.size (listed.setIfInBounds s.i true)).length = fuel := by
      have h1 : s.i ∈ restL ops.size listed := List.mem_filter.2 ⟨List.mem_range.2 hlt, him2.2.1⟩
      rw [restL_set hi.size hlt]
      have hnd : (restL ops.size listed).Nodup := List.Pairwise.filter _ List.nodup_range
      have e : (restL ops.size listed).filter (fun j => !Nat.beq j s.i) = (restL ops.size listed).erase s.i := by
        rw [hnd.erase_eq_filter]
        apply List.filter_congr
        intro j _
        by_cases hj : j = s.i
        · simp [hj]
        · have : Nat.beq j s.i = false := Bool.eq_false_iff.2 fun h => hj (Nat.eq_of_beq_eq_true h)
          simp [this, hj]
      rw [e, List.length_erase_of_mem h1, hn]; rfl
    obtain ⟨A, B, rfl⟩ := mem_split hs
    have hsn := hi.sn _ hs
    simp only at hsn
    have hrdy := ((ready_iff hsn.op).1 him).2.2
    have hpm : ∀ j, bitAt (pm s.i) j = true → listed.getD j false = true := by
      intro j hj
      obtain ⟨e, he, hb, hor⟩ := hsn.clo j hj
      have h1 := hrdy e he hb
      rcases hor with rfl | h2
      · exact h1
      · exact hi.clo _ h1 _ h2
    obtain ⟨p1, p2, p3⟩ := pw_parts hi.pw
    simp only at p1 p2
    by_cases hk1 : s.k = 1
    · -- a block is made, maybe early
      obtain ⟨hg, q, hq⟩ := hsn.flt hk1
      have ht : TR ρ s.t T := by
        intro d v hv
        rcases hi.tok s hs d (hsn.only d v hv) v hv with h1 | ⟨it, hit, h1, h2⟩
        · exact h1
        · exfalso
          rcases mem_parts hit with rfl | hit
          · exact hi.noself s hs h2
          · have hitm := mem_parts' (x := (s, none)) hit
            have hl := hpm _ h2
            cases hfl : it.2 with
            | none =>
              obtain ⟨u, fl⟩ := it
              simp only at hfl; subst hfl
              rw [hi.todo hitm] at hl; cases hl
            | some b =>
              obtain ⟨u, fl⟩ := it
              simp only at hfl; subst hfl
              have hku := (hi.early u b hitm).1
              rcases List.mem_append.1 hit with h3 | h3
              · have := (p1 _ h3).float (by simp only; omega) hk1
                simp only at this h2
                rw [this] at h2; cases h2
              · have := (p2 _ h3).later
                simp only at this h2
                rw [this] at h2; cases h2
      unfold aStep
      rw [hsn.op]
      simp only [hg]
      refine floatOp_ok ht hq fun cs hcs b hb2 hbn v hv => ih (rem := A ++ (s, some b) :: B) (F' := AM.upd F' b (.cells cs q.2.1 .exact)) (ρ := ρ) (eh := eh) (n := n) ?_ hfuel
      have hF'b : F' b = none := by
        cases hf : F' b with
        | none => rfl
        | some o => have := hi.sim.fr _ _ hf; rw [hbn] at this; cases this
      have hFb : F b = none := by
        cases hf : F b with
        | none => rfl
        | some o => have := hi.fr _ _ hf; rw [hF'b] at this; cases this
      have hput : ∀ d, s.o.dst ≠ some d → tput T s.o.dst v d = T d := fun d hd => by
        cases hqq : s.o.dst with
        | none => rfl
        | some e =>
          have : d ≠ e := fun he => hd (by rw [hqq, he])
          simp only [tput, tset]
          have : Nat.beq d e = false := Bool.eq_false_iff.2 fun h => this (Nat.eq_of_beq_eq_true h)
          rw [this, cond_false]
      have hput' : ∀ d, s.o.dst = some d → tput T s.o.dst v d = v := fun d hd => by
        rw [hd]; simp [tput, tset, Nat.beq_refl]
      have mem1 : ∀ {it : Item}, it ∈ A ++ (s, some b) :: B → it = (s, some b) ∨ it ∈ A ++ (s, none) :: B := fun hit => by
        rcases mem_parts hit with e | hit
        · exact .inl e
        · exact .inr (mem_parts' hit)
      have mem2 : ∀ {it : Item}, it ∈ A ++ (s, none) :: B → it = (s, none) ∨ it ∈ A ++ (s, some b) :: B := fun hit => by
        rcases mem_parts hit with e | hit
        · exact .inl e
        · exact .inr (mem_parts' hit)
      have hc_same : ∀ (A : List Item) (eh : EH) (n : Nat), HeapChain ef nf eh n (A ++ (s, none) :: B) → HeapChain ef nf eh n (A ++ (s, some b) :: B) := by
        intro A
        induction A with
        | nil => intro eh n h; exact h
        | cons a A ihA =>
          intro eh n h
          obtain ⟨u, fl⟩ := a
          have h' : (if u.k = 0 then HeapChain ef nf eh n (A ++ (s, none) :: B) else u.eh = eh ∧ u.n = n ∧ HeapChain ef nf u.eh' u.n' (A ++ (s, none) :: B)) := h
          show (if u.k = 0 then HeapChain ef nf eh n (A ++ (s, some b) :: B) else u.eh = eh ∧ u.n = n ∧ HeapChain ef nf u.eh' u.n' (A ++ (s, some b) :: B))
          split
          · rename_i h0; rw [if_pos h0] at h'; exact ihA _ _ h'
          · rename_i h0; rw [if_neg h0] at h'; exact ⟨h'.1, h'.2.1, ihA _ _ h'.2.2⟩
      have vo_same : ∀ (A : List Item) (eh : EH) (n : Nat), ValOk P C Y ops eh n (A ++ (s, none) :: B) → ValOk P C Y ops eh n (A ++ (s, some b) :: B) := by
        intro A
        induction A with
        | nil => intro eh n h; exact h
        | cons a A ihA =>
          intro eh n h
          obtain ⟨u, fl⟩ := a
          have h' : (if u.k = 0 then ValAt P C Y ops u eh n ∧ ValOk P C Y ops eh n (A ++ (s, none) :: B) else ValOk P C Y ops u.eh' u.n' (A ++ (s, none) :: B)) := h
          show (if u.k = 0 then ValAt P C Y ops u eh n ∧ ValOk P C Y ops eh n (A ++ (s, some b) :: B) else ValOk P C Y ops u.eh' u.n' (A ++ (s, some b) :: B))
          split
          · rename_i h0; rw [if_pos h0] at h'; exact ⟨h'.1, ihA _ _ h'.2⟩
          · rename_i h0; rw [if_neg h0] at h'; exact ihA _ _ h'
      refine ⟨?_, by simp [hi.size], ?_, ?_, ?_, hi.le, ?_, hi.sim.addFrame hbn _, hc_same A _ _ hi.hc, vo_same A _ _ hi.vo, ?_, ?_, ?_, ?_, ?_⟩
      · intro i hlti
        rw [getD_set (by rw [hi.size]; exact hlt)]
        by_cases e : i = s.i
        · rw [if_pos e]
          refine ⟨fun _ => ?_, fun _ => rfl⟩
          rintro ⟨u, hu, hui⟩
          rcases mem_parts hu with h1 | hu
          · cases h1
          · have := pw_inj hi.pw (mem_parts' (x := (s, none)) hu) hs (hui.trans e)
            cases this
            rcases List.mem_append.1 hu with h2 | h2
            · exact (p1 _ h2).ne rfl
            · exact (p2 _ h2).ne rfl
        · rw [if_neg e, hi.lst i hlti]
          constructor
          · rintro h1 ⟨u, hu, hui⟩
            rcases mem_parts hu with h2 | hu
            · cases h2
            · exact h1 ⟨u, mem_parts' hu, hui⟩
          · rintro h1 ⟨u, hu, hui⟩
            rcases mem_parts hu with h2 | hu
            · cases h2; exact e hui.symm
            · exact h1 ⟨u, mem_parts' hu, hui⟩
      · intro i hli j hj
        rw [getD_set (by rw [hi.size]; exact hlt)] at hli ⊢
        by_cases e : j = s.i
        · rw [if_pos e]
        · rw [if_neg e]
          by_cases e2 : i = s.i
          · rw [e2] at hj; exact hpm j hj
          · rw [if_neg e2] at hli; exact hi.clo i hli j hj
      · intro it hit
        rcases mem1 hit with rfl | hit
        · exact hsn
        · exact hi.sn it hit
      · have : (A ++ (s, some b) :: B).map (·.1) = (A ++ (s, none) :: B).map (·.1) := by simp
        rw [this]; exact hi.pw
      · intro c o hc
        rw [upd_ne _ _ (by rintro rfl; rw [hFb] at hc; cases hc)]; exact hi.fr c o hc
      · intro u hu d hd w hw
        have hu2 : (u, none) ∈ A ++ (s, none) :: B := by
          rcases mem1 hu with h1 | h1
          · cases h1
          · exact h1
        have hu3 : (u, none) ∈ A ++ B := by
          rcases mem_parts hu with h1 | h1
          · cases h1
          · exact h1
        by_cases e : s.o.dst = some d
        · rcases List.mem_append.1 hu3 with h3 | h3
          · have := (p1 _ h3).over d e hd
            simp only at this
            have h1 := hpm _ this
            rw [hi.todo hu2] at h1; cases h1
          · have := ((p2 _ h3).read d e hd).1
            exact .inr ⟨(s, some b), by simp, e, this⟩
        · rw [hput d e]
          rcases hi.tok u hu2 d hd w hw with h1 | ⟨it, hit, h1, h2⟩
          · exact .inl h1
          · rcases mem2 hit with rfl | hit
            · exact absurd h1 e
            · exact .inr ⟨it, hit, h1, h2⟩
      · intro d w hw
        by_cases e : s.o.dst = some d
        · exact .inr ⟨(s, some b), by simp, e⟩
        · rw [hput d e]
          rcases hi.fok d w hw with h1 | ⟨it, hit, h1⟩
          · exact .inl h1
          · rcases mem2 hit with rfl | hit
            · exact absurd h1 e
            · exact .inr ⟨it, hit, h1⟩
      · intro u c hu
        rcases mem_parts hu with h1 | hu
        · cases h1
          refine ⟨hk1, hb2, hFb, q, cs, hq, upd_same _ _ _, hcs, fun d hd => ?_⟩
          rw [hput' d hd]; exact fun ρ' m τ hm => hv ρ' m τ hm
        · obtain ⟨g1, g2, g3, q', cs', g4, g5, g6, g7⟩ := hi.early u c (mem_parts' hu)
          refine ⟨g1, g2, g3, q', cs', g4, ?_, g6, fun d hd => ?_⟩
          · rw [upd_ne _ _ (by rintro rfl; rw [hF'b] at g5; cases g5)]; exact g5
          · have : s.o.dst ≠ some d := by
              rcases List.mem_append.1 hu with h2 | h2
              · exact (p1 _ h2).dst d hd
              · exact fun e => (p2 _ h2).dst d e hd
            rw [hput d this]; exact g7 d hd
      · intro u c u' c' hu hu' e
        have hne : ∀ {u c}, (u, some c) ∈ A ++ B → c ≠ b := by
          intro u c hu e
          obtain ⟨_, _, _, _, _, _, g5, _⟩ := hi.early u c (mem_parts' hu)
          rw [e, hF'b] at g5; cases g5
        rcases mem_parts hu with h1 | hu <;> rcases mem_parts hu' with h2 | hu'
        · cases h1; cases h2; rfl
        · cases h1; exact absurd e.symm (hne hu')
        · cases h2; exact absurd e (hne hu)
        · exact hi.dist u c u' c' (mem_parts' hu) (mem_parts' hu') e
      · rw [tput_N hsn.ok]; exact hi.tN
    · -- light, or any other
      have hAf : ∀ it ∈ A, it.1.k ≠ 0 → it.2 ≠ none := by
        intro it hit h0 hnone
        have hb := (p1 it hit).heavy h0 hk1
        have hl := hpm _ hb
        obtain ⟨u, fl⟩ := it
        simp only at hnone; subst hnone
        rw [hi.todo (s := u) (by simp [hit])] at hl; cases hl
      have hi' : Inv P C Y ops N pm F ρ0 T0 tf ef nf ρ F' eh n ([] ++ (A ++ ((s, none) :: B))) listed T h := by simpa using hi
      obtain ⟨ρ1, F1, eh1, n1, A', g1, g2, g3⟩ := Inv.absorbAll A [] (fun it hit => by cases hit) hAf hi'
      have hs' : (s, none) ∈ A' ++ (s, none) :: B := by simp
      obtain ⟨q1, q2, q3⟩ := pw_parts g1.pw
      simp only at q1 q2
      have ht : TR ρ1 s.t T := by
        intro d v hv
        rcases g1.tok s hs' d (hsn.only d v hv) v hv with h1 | ⟨it, hit, h1, h2⟩
        · exact h1
        · exfalso
          rcases mem_parts hit with rfl | hit
          · exact g1.noself s hs' h2
          · have hitm := mem_parts' (x := (s, none)) hit
            have hl := hpm _ h2
            cases hfl : it.2 with
            | none =>
              obtain ⟨u, fl⟩ := it
              simp only at hfl; subst hfl
              rw [g1.todo hitm] at hl; cases hl
            | some b =>
              rcases List.mem_append.1 hit with h3 | h3
              · have h0 := g2 it h3
                have := g1.todoK (a := it) hitm h0
                rw [hfl] at this; cases this
              · have := (q2 _ h3).later
                rw [this] at h2; cases h2
      have hvo := (vo_split g2).1 g1.vo
      have hhc := (hc_light g2).1 g1.hc
      by_cases hk0 : s.k = 0
      · have hv1 : ValAt P C Y ops s eh1 n1 ∧ ValOk P C Y ops eh1 n1 B := by
          have : (if s.k = 0 then ValAt P C Y ops s eh1 n1 ∧ ValOk P C Y ops eh1 n1 B else ValOk P C Y ops s.eh' s.n' B) := hvo.2
          rwa [if_pos hk0] at this
        have hcB : HeapChain ef nf eh1 n1 B := by
          have : (if s.k = 0 then HeapChain ef nf eh1 n1 B else s.eh = eh1 ∧ s.n = n1 ∧ HeapChain ef nf s.eh' s.n' B) := hhc
          rwa [if_pos hk0] at this
        obtain ⟨v2, hval, hrv⟩ := hv1.1
        refine e_val_ok hC hY hsn.op g1.sim ht hval fun ρ' v' h' hle hsim hv' => ?_
        exact ih (g1.done hpm hle hsim (hrv _ _ hv') ((hc_light g2).2 hcB) ((vo_split g2).2 ⟨hvo.1, hv1.2⟩)) hfuel
      · have hcB : s.eh = eh1 ∧ s.n = n1 ∧ HeapChain ef nf s.eh' s.n' B := by
          have : (if s.k = 0 then HeapChain ef nf eh1 n1 B else s.eh = eh1 ∧ s.n = n1 ∧ HeapChain ef nf s.eh' s.n' B) := hhc
          rwa [if_neg hk0] at this
        have hvB : ValOk P C Y ops s.eh' s.n' B := by
          have : (if s.k = 0 then ValAt P C Y ops s eh1 n1 ∧ ValOk P C Y ops eh1 n1 B else ValOk P C Y ops s.eh' s.n' B) := hvo.2
          rwa [if_neg hk0] at this
        obtain ⟨e1, e2, hcB⟩ := hcB
        have hrun := hsn.run
        rw [e1, e2] at hrun
        refine e_val_ok hC hY hsn.op g1.sim ht hrun fun ρ' v' h' hle hsim hv' => ?_
        refine ih (g1.done hpm hle hsim hv' ((hc_light g2).2 hcB) ((vo_split g2).2 ⟨fun it hit => (q1 it hit).val (g2 it hit) hk0 ?_, hvB⟩)) hfuel
        cases hbt : bitAt (pm s.i) it.1.i with
        | false => rfl
        | true =>
          have hl := hpm _ hbt
          have hitm : it ∈ A' ++ (s, none) :: B := by simp [hit]
          have hnone := g1.todoK hitm (g2 it hit)
          obtain ⟨u, fl⟩ := it
          simp only at hnone; subst hnone
          rw [g1.todo hitm] at hl; cases hl
end
end
end Go.Proofs.YtjdhldfeflmneaaGreat.AM
