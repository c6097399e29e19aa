/-
  Regions that draw their order, for the executor: whatever the order, it comes to what the one order came to.
-/
import Derived.Test.YtjdhldfeflmneaaGreatXR
set_option linter.unusedSimpArgs false
set_option linter.unusedVariables false
namespace Go.Proofs.YtjdhldfeflmneaaGreat.AM
noncomputable section

/-- An operation as it was run: number, kind (0: light; 1: it makes a block, early or late; 2: any other), the temporaries it looks at, the memory ahead of it and behind it, its value. -/
structure Snap where
  i : Nat
  k : Nat
  o : Oper
  t : XT
  eh : EH
  n : Nat
  v : XV
  eh' : EH
  n' : Nat
abbrev Item := Snap × Option Nat

theorem XSim.weaken {F F' : H} {ρ : Ren} {n : Nat} {eh : EH} {h : H} (hs : XSim F' ρ n eh h) (hF : ∀ b o, F b = some o → F' b = some o) : XSim F ρ n eh h :=
  ⟨hs.z0, hs.z1, hs.two, hs.top, hs.n2, hs.obj, hs.inj, fun c o hc => hs.fr c o (hF c o hc), fun b o x t h1 h2 h3 => by
    cases hq : F x with
    | none => rfl
    | some q => have := hF _ _ hq; rw [hs.fsep b o x t h1 h2 h3] at this; cases this⟩
theorem XSim.addFrame {F : H} {ρ : Ren} {n : Nat} {eh : EH} {h : H} (hs : XSim F ρ n eh h) {b : Nat} (hb : h b = none) (o : AObj) : XSim (AM.upd F b o) ρ n eh (AM.upd h b o) := by
  refine ⟨hs.z0, hs.z1, hs.two, hs.top, hs.n2, ?_, hs.inj, ?_, ?_⟩
  · intro c q hq hqd
    obtain ⟨x, t, p, h1, h2, h3⟩ := hs.obj c q hq hqd
    exact ⟨x, t, p, h1, by rw [upd_ne _ _ (by rintro rfl; rw [hb] at h2; cases h2)]; exact h2, h3⟩
  · intro c q hc
    by_cases e : c = b
    · subst e; rw [upd_same] at hc ⊢; exact hc
    · rw [upd_ne _ _ e] at hc ⊢; exact hs.fr c q hc
  · intro c q x t hq hqd hx
    obtain ⟨x', t', p, h1, h2, h3⟩ := hs.obj c q hq hqd
    rw [hx] at h1; cases h1
    rw [upd_ne _ _ (by rintro rfl; rw [hb] at h2; cases h2)]
    exact hs.fsep c q x t hq hqd hx
theorem XSim.absorb {F : H} {ρ : Ren} {n : Nat} {eh : EH} {h : H} (hs : XSim F ρ n eh h) {b : Nat} (h2 : 2 ≤ b) {o : EO} {o' : AObj} (hb : F b = some o') (hd : isDead o = false) (ho : RO ρ undefT o o') :
    ρ.le (fun c => if c = n then some (b, undefT) else ρ c) ∧ XSim (AM.del F b) (fun c => if c = n then some (b, undefT) else ρ c) (n + 1) (eh.set n o) h := by
  have hn := hs.top n (Nat.le_refl n)
  have hle : ρ.le (fun c => if c = n then some (b, undefT) else ρ c) := le_new hs
  have h22 := hs.n2
  refine ⟨hle, ⟨?_, ?_, ?_, ?_, by omega, ?_, ?_, ?_, ?_⟩⟩
  · obtain ⟨t, ht⟩ := hs.z0; exact ⟨t, hle _ _ ht⟩
  · obtain ⟨t, ht⟩ := hs.z1; exact ⟨t, hle _ _ ht⟩
  · intro c d t hc2 hc
    by_cases e : c = n
    · simp only [if_pos e, Option.some.injEq, Prod.mk.injEq] at hc; omega
    · simp only [if_neg e] at hc; exact hs.two _ _ _ hc2 hc
  · intro c hc
    simp only [if_neg (show c ≠ n by omega)]
    exact hs.top c (by omega)
  · intro c q hq hqd
    rw [Tr.get_set] at hq
    by_cases e : c = n
    · rw [if_pos e] at hq; cases hq
      exact ⟨b, undefT, o', by simp only [if_pos e], hs.fr _ _ hb, ho.mono hle⟩
    · rw [if_neg e] at hq
      obtain ⟨x, t, p, h1, h3, h4⟩ := hs.obj c q hq hqd
      exact ⟨x, t, p, hle _ _ h1, h3, h4.mono hle⟩
  · intro c d q q' x t t' hq hqd hq' hqd' hx hx'
    rw [Tr.get_set] at hq hq'
    have live : ∀ c q x t, eh.get c = some q → isDead q = false → ρ c = some (x, t) → x ≠ b := by
      intro c q x t h1 h3 h4 e
      subst e
      rw [hs.fsep c q x t h1 h3 h4] at hb; cases hb
    by_cases e : c = n <;> by_cases e' : d = n
    · omega
    · rw [if_neg e'] at hq'
      simp only [if_pos e, if_neg e', Option.some.injEq, Prod.mk.injEq] at hx hx'
      exact absurd hx.1.symm (live _ _ _ _ hq' hqd' hx')
    · rw [if_neg e] at hq
      simp only [if_neg e, if_pos e', Option.some.injEq, Prod.mk.injEq] at hx hx'
      exact absurd hx'.1.symm (live _ _ _ _ hq hqd hx)
    · rw [if_neg e] at hq
      rw [if_neg e'] at hq'
      simp only [if_neg e, if_neg e'] at hx hx'
      exact hs.inj _ _ _ _ _ _ _ hq hqd hq' hqd' hx hx'
  · intro c q hc
    by_cases e : c = b
    · subst e; rw [del_same] at hc; cases hc
    · rw [del_ne _ e] at hc; exact hs.fr c q hc
  · intro c q x t hq hqd hx
    rw [Tr.get_set] at hq
    by_cases e : c = n
    · simp only [if_pos e, Option.some.injEq, Prod.mk.injEq] at hx
      obtain ⟨rfl, _⟩ := hx
      exact del_same _ _
    · rw [if_neg e] at hq
      simp only [if_neg e] at hx
      by_cases e2 : x = b
      · subst e2; exact del_same _ _
      · rw [del_ne _ e2]; exact hs.fsep c q x t hq hqd hx

section
variable (P : Program) (C : CallF) (Y : YieldF) (ops : Array Oper) (N : Nat) (pm : Nat → Nat)
def ValAt (s : Snap) (eh : EH) (n : Nat) : Prop := ∃ v2, e_val P C Y ops s.o s.t eh n = some (v2, eh, n) ∧ ∀ ρ u, RV ρ v2 u → RV ρ s.v u
structure PairOk (a b : Snap) : Prop where
  ne : a.i ≠ b.i
  heavy : a.k ≠ 0 → b.k ≠ 1 → bitAt (pm b.i) a.i = true
  float : a.k ≠ 0 → b.k = 1 → bitAt (pm b.i) a.i = false
  later : bitAt (pm a.i) b.i = false
  dst : ∀ d, a.o.dst = some d → b.o.dst ≠ some d
  read : ∀ d, a.o.dst = some d → d ∈ b.o.looksAt ops → bitAt (pm b.i) a.i = true ∧ ∀ v, b.t.get d = some v → v = a.v
  over : ∀ d, b.o.dst = some d → d ∈ a.o.looksAt ops → bitAt (pm b.i) a.i = true
  val : a.k = 0 → b.k ≠ 0 → bitAt (pm b.i) a.i = false → ValAt P C Y ops a b.eh' b.n'
structure SnapOk (tf : XT) (s : Snap) : Prop where
  op : ops[s.i]? = some s.o
  ok : (match s.o.dst with | some d => Nat.blt d N | none => true) = true
  run : e_val P C Y ops s.o s.t s.eh s.n = some (s.v, s.eh', s.n')
  only : ∀ d v, s.t.get d = some v → d ∈ s.o.looksAt ops
  flt : s.k = 1 → s.o.guard = none ∧ ∃ q, floatOp P s.o.op s.t = some q
  clo : ∀ j, bitAt (pm s.i) j = true → ∃ e ∈ s.o.after.toList, Region.binds .any e = true ∧ (e.on = j ∨ bitAt (pm e.on) j = true)
  bnd : ∀ e ∈ s.o.after.toList, Region.binds .any e = true → bitAt (pm s.i) e.on = true ∧ e.on < ops.size
  fin : ∀ d, s.o.dst = some d → ∀ v, tf.get d = some v → v = s.v
  self : bitAt (pm s.i) s.i = false
def HeapChain (ef : EH) (nf : Nat) : EH → Nat → List Item → Prop
  | eh, n, [] => eh = ef ∧ n = nf
  | eh, n, (s, _) :: l => if s.k = 0 then HeapChain ef nf eh n l else s.eh = eh ∧ s.n = n ∧ HeapChain ef nf s.eh' s.n' l
def ValOk : EH → Nat → List Item → Prop
  | _, _, [] => True
  | eh, n, (s, _) :: l => if s.k = 0 then ValAt P C Y ops s eh n ∧ ValOk eh n l else ValOk s.eh' s.n' l
end

structure Inv (P : Program) (C : CallF) (Y : YieldF) (ops : Array Oper) (N : Nat) (pm : Nat → Nat) (F : H) (ρ0 : Ren) (T0 : T) (tf : XT) (ef : EH) (nf : Nat)
    (ρ : Ren) (F' : H) (eh : EH) (n : Nat) (rem : List Item) (listed : Array Bool) (T : T) (h : H) : Prop where
  lst : ∀ i, i < ops.size → (listed.getD i false = true ↔ ¬ ∃ s, (s, none) ∈ rem ∧ s.i = i)
  size : listed.size = ops.size
  clo : ∀ i, listed.getD i false = true → ∀ j, bitAt (pm i) j = true → listed.getD j false = true
  sn : ∀ it ∈ rem, SnapOk P C Y ops N pm tf it.1
  pw : (rem.map (·.1)).Pairwise (PairOk P C Y ops pm)
  le : ρ0.le ρ
  fr : ∀ b o, F b = some o → F' b = some o
  sim : XSim F' ρ n eh h
  hc : HeapChain ef nf eh n rem
  vo : ValOk P C Y ops eh n rem
  tok : ∀ s, (s, none) ∈ rem → ∀ d ∈ s.o.looksAt ops, ∀ v, s.t.get d = some v → RV ρ v (T d) ∨ ∃ it ∈ rem, it.1.o.dst = some d ∧ bitAt (pm s.i) it.1.i = true
  fok : ∀ d v, tf.get d = some v → RV ρ v (T d) ∨ ∃ it ∈ rem, it.1.o.dst = some d
  early : ∀ s b, (s, some b) ∈ rem → s.k = 1 ∧ 2 ≤ b ∧ F b = none ∧ ∃ q cs, floatOp P s.o.op s.t = some q ∧ F' b = some (.cells cs q.2.1 .exact) ∧ All2 (RC ρ) q.1.toL cs ∧
    ∀ d, s.o.dst = some d → ∀ ρ' m τ, ρ' m = some (b, τ) → RV ρ' (q.2.2 m) (T d)
  dist : ∀ s b s' b', (s, some b) ∈ rem → (s', some b') ∈ rem → b = b' → s.i = s'.i
  tN : T N = T0 N

section
variable {P : Program} {C : CallF} {Y : YieldF} {ops : Array Oper} {N : Nat} {pm : Nat → Nat} {F : H} {ρ0 : Ren} {T0 : T} {tf : XT} {ef : EH} {nf : Nat}
  {ρ : Ren} {F' : H} {eh : EH} {n : Nat} {rem : List Item} {listed : Array Bool} {T : T} {h : H}

theorem hc_light {A : List Item} : ∀ {eh : EH} {n : Nat} {R : List Item}, (∀ it ∈ A, it.1.k = 0) → (HeapChain ef nf eh n (A ++ R) ↔ HeapChain ef nf eh n R) := by
  induction A with
  | nil => intro eh n R _; exact Iff.rfl
  | cons a A ih =>
    intro eh n R hA
    have h0 : a.1.k = 0 := hA a (.head _)
    show (if a.1.k = 0 then HeapChain ef nf eh n (A ++ R) else _) ↔ _
    rw [if_pos h0]
    exact ih fun it hit => hA it (.tail _ hit)
theorem vo_split {A : List Item} : ∀ {eh : EH} {n : Nat} {R : List Item}, (∀ it ∈ A, it.1.k = 0) → (ValOk P C Y ops eh n (A ++ R) ↔ (∀ it ∈ A, ValAt P C Y ops it.1 eh n) ∧ ValOk P C Y ops eh n R) := by
  induction A with
  | nil => intro eh n R _; simp
  | cons a A ih =>
    intro eh n R hA
    have h0 : a.1.k = 0 := hA a (.head _)
    show (if a.1.k = 0 then ValAt P C Y ops a.1 eh n ∧ ValOk P C Y ops eh n (A ++ R) else _) ↔ _
    rw [if_pos h0, ih fun it hit => hA it (.tail _ hit)]
    constructor
    · rintro ⟨h1, h2, h3⟩
      exact ⟨fun it hit => by
        rcases List.mem_cons.1 hit with rfl | hit
        · exact h1
        · exact h2 it hit, h3⟩
    · rintro ⟨h1, h3⟩
      exact ⟨h1 a (.head _), fun it hit => h1 it (.tail _ hit), h3⟩
theorem pw_parts {A B : List Item} {x : Item} {R : Snap → Snap → Prop} (h : ((A ++ x :: B).map (·.1)).Pairwise R) :
    (∀ a ∈ A, R a.1 x.1) ∧ (∀ b ∈ B, R x.1 b.1) ∧ ((A ++ B).map (·.1)).Pairwise R := by
  rw [List.map_append, List.map_cons, List.pairwise_append, List.pairwise_cons] at h
  obtain ⟨h1, ⟨h2, h3⟩, h4⟩ := h
  refine ⟨fun a ha => h4 a.1 (List.mem_map.2 ⟨a, ha, rfl⟩) x.1 (.head _), fun b hb => h2 b.1 (List.mem_map.2 ⟨b, hb, rfl⟩), ?_⟩
  rw [List.map_append, List.pairwise_append]
  exact ⟨h1, h3, fun a ha b hb => h4 a ha b (.tail _ hb)⟩
theorem mem_parts {A B : List Item} {x y : Item} (h : y ∈ A ++ x :: B) : y = x ∨ y ∈ A ++ B := by
  simp only [List.mem_append, List.mem_cons] at h ⊢
  rcases h with h | rfl | h
  · exact .inr (.inl h)
  · exact .inl rfl
  · exact .inr (.inr h)
theorem mem_parts' {A B : List Item} {x y : Item} (h : y ∈ A ++ B) : y ∈ A ++ x :: B := by
  simp only [List.mem_append, List.mem_cons] at h ⊢
  rcases h with h | h
  · exact .inl h
  · exact .inr (.inr h)

abbrev InvOf (P : Program) (C : CallF) (Y : YieldF) (ops : Array Oper) (N : Nat) (pm : Nat → Nat) (F : H) (ρ0 : Ren) (T0 : AM.T) (tf : XT) (ef : EH) (nf : Nat) := Inv P C Y ops N pm F ρ0 T0 tf ef nf

theorem Inv.lt (hi : Inv P C Y ops N pm F ρ0 T0 tf ef nf ρ F' eh n rem listed T h) {it : Item} (hm : it ∈ rem) : it.1.i < ops.size := by
  have := (hi.sn it hm).op
  exact (Array.getElem?_eq_some_iff.1 this).1
theorem Inv.todo (hi : Inv P C Y ops N pm F ρ0 T0 tf ef nf ρ F' eh n rem listed T h) {s : Snap} (hm : (s, none) ∈ rem) : listed.getD s.i false = false := by
  cases hq : listed.getD s.i false with
  | false => rfl
  | true => exact absurd ⟨s, hm, rfl⟩ ((hi.lst _ (hi.lt hm)).1 hq)
theorem Inv.todoK (hi : Inv P C Y ops N pm F ρ0 T0 tf ef nf ρ F' eh n rem listed T h) {a : Item} (hm : a ∈ rem) (h0 : a.1.k = 0) : a.2 = none := by
  obtain ⟨s, fl⟩ := a
  cases fl with
  | none => rfl
  | some b => have := (hi.early s b hm).1; simp only at h0; omega
theorem Inv.noself (hi : Inv P C Y ops N pm F ρ0 T0 tf ef nf ρ F' eh n rem listed T h) (s : Snap) {fl : Option Nat} (hm : (s, fl) ∈ rem) (hb : bitAt (pm s.i) s.i = true) : False := by
  have := (hi.sn _ hm).self
  simp only at this
  rw [this] at hb; cases hb
/-- Two items at one place. -/
theorem pw_inj {rem : List Item} (h : (rem.map (·.1)).Pairwise (PairOk P C Y ops pm)) {a b : Item} (ha : a ∈ rem) (hb : b ∈ rem) (he : a.1.i = b.1.i) : a = b := by
  obtain ⟨i, hi, rfl⟩ := List.mem_iff_getElem.1 ha
  obtain ⟨j, hj, rfl⟩ := List.mem_iff_getElem.1 hb
  rw [List.pairwise_iff_getElem] at h
  rcases Nat.lt_trichotomy i j with hlt | heq | hgt
  · have := (h i j (by simpa using hi) (by simpa using hj) hlt).ne
    simp only [List.getElem_map] at this
    exact absurd he this
  · subst heq; rfl
  · have := (h j i (by simpa using hj) (by simpa using hi) hgt).ne
    simp only [List.getElem_map] at this
    exact absurd he.symm this

/-- A block that was made early takes its place. -/
theorem Inv.absorb {A B : List Item} {s : Snap} {b : Nat} (hi : Inv P C Y ops N pm F ρ0 T0 tf ef nf ρ F' eh n (A ++ (s, some b) :: B) listed T h) (hA : ∀ it ∈ A, it.1.k = 0) :
    ∃ ρ', Inv P C Y ops N pm F ρ0 T0 tf ef nf ρ' (del F' b) s.eh' s.n' (A ++ B) listed T h := by
  have hms : (s, some b) ∈ A ++ (s, some b) :: B := by simp
  obtain ⟨hk, hb2, hFb, q, cs, hq, hF'b, hcs, hval⟩ := hi.early s b hms
  obtain ⟨p1, p2, p3⟩ := pw_parts hi.pw
  simp only at p1 p2
  have hsn := hi.sn _ hms
  simp only at hsn
  have hch := (hc_light hA).1 hi.hc
  have hch' : s.eh = eh ∧ s.n = n ∧ HeapChain ef nf s.eh' s.n' B := by
    have : (if s.k = 0 then HeapChain ef nf eh n B else s.eh = eh ∧ s.n = n ∧ HeapChain ef nf s.eh' s.n' B) := hch
    rwa [if_neg (by omega)] at this
  obtain ⟨e1, e2, hcB⟩ := hch'
  have hg := (hsn.flt hk).1
  have hrun : e_op P C Y s.o.op s.t s.eh s.n = some (s.v, s.eh', s.n') := by
    have := hsn.run
    unfold e_val at this
    rw [hg] at this; exact this
  have hform := e_op_float hq hrun
  simp only [Prod.mk.injEq] at hform
  obtain ⟨f1, f2, f3⟩ := hform
  rw [e1, e2] at f2
  rw [e2] at f1 f3
  obtain ⟨hle, hsim⟩ := hi.sim.absorb hb2 hF'b (o := .cells q.1 q.2.1 .exact) rfl (.cells hcs)
  have hρn : (fun c => if c = n then some (b, undefT) else ρ c) n = some (b, undefT) := by simp
  generalize (fun c => if c = n then some (b, undefT) else ρ c) = ρ' at hle hsim hρn
  have hls : listed.getD s.i false = true := by
    refine (hi.lst _ (hi.lt hms)).2 ?_
    rintro ⟨u, hu, hui⟩
    have := pw_inj hi.pw hu hms hui
    cases this
  have hAbit : ∀ a ∈ A, bitAt (pm s.i) a.1.i = false := by
    intro a ha
    cases hbt : bitAt (pm s.i) a.1.i with
    | false => rfl
    | true =>
      have h1 := hi.clo _ hls _ hbt
      have ham : a ∈ A ++ (s, some b) :: B := by simp [ha]
      have h2 := hi.todoK ham (hA a ha)
      obtain ⟨u, fl⟩ := a
      simp only at h2
      subst h2
      rw [hi.todo ham] at h1; cases h1
  have hvo := (vo_split hA).1 hi.vo
  have hvB : ValOk P C Y ops s.eh' s.n' B := by
    have : (if s.k = 0 then ValAt P C Y ops s eh n ∧ ValOk P C Y ops eh n B else ValOk P C Y ops s.eh' s.n' B) := hvo.2
    rwa [if_neg (by omega)] at this
  have hb' : ∀ u c, (u, some c) ∈ A ++ B → c ≠ b := by
    intro u c hu e
    have hm := mem_parts' (x := (s, some b)) hu
    have h1 := hi.dist u c s b hm hms e
    have := pw_inj hi.pw hm hms h1
    cases this
    -- the same item cannot lie in A ++ B
    have hmm : (s, some b).1 ∈ (A ++ B).map (·.1) := List.mem_map.2 ⟨_, hu, rfl⟩
    rcases List.mem_append.1 hu with h2 | h2
    · exact (p1 _ h2).ne rfl
    · exact (p2 _ h2).ne rfl
  refine ⟨ρ', ?_, hi.size, hi.clo, fun it hit => hi.sn it (mem_parts' hit), p3, Ren.le_trans hi.le hle, ?_, ?_, (hc_light hA).2 hcB, (vo_split hA).2 ⟨fun it hit => (p1 it hit).val (hA it hit) (by omega) (hAbit it hit), hvB⟩, ?_, ?_, ?_, ?_, hi.tN⟩
  · intro i hlt
    rw [hi.lst i hlt]
    constructor
    · rintro h1 ⟨u, hu, hui⟩; exact h1 ⟨u, mem_parts' hu, hui⟩
    · rintro h1 ⟨u, hu, hui⟩
      rcases mem_parts hu with e | hu
      · cases e
      · exact h1 ⟨u, hu, hui⟩
  · intro c o hc
    rw [del_ne _ (by rintro rfl; rw [hFb] at hc; cases hc)]; exact hi.fr c o hc
  · rw [f2, f3]; exact hsim
  · intro u hu d hd v hv
    have hum := mem_parts' (x := (s, some b)) hu
    rcases hi.tok u hum d hd v hv with h1 | ⟨it, hit, h1, h2⟩
    · exact .inl (h1.mono hle)
    · rcases mem_parts hit with rfl | hit
      · simp only at h1 h2
        rcases List.mem_append.1 hu with hu | hu
        · have := (p1 _ hu).later
          simp only at this
          rw [this] at h2; cases h2
        · have := ((p2 _ hu).read d h1 hd).2 v hv
          subst this
          rw [f1]
          exact .inl (hval d h1 ρ' n undefT hρn)
      · exact .inr ⟨it, hit, h1, h2⟩
  · intro d v hv
    rcases hi.fok d v hv with h1 | ⟨it, hit, h1⟩
    · exact .inl (h1.mono hle)
    · rcases mem_parts hit with rfl | hit
      · simp only at h1
        have := hsn.fin d h1 v hv
        subst this
        rw [f1]
        exact .inl (hval d h1 ρ' n undefT hρn)
      · exact .inr ⟨it, hit, h1⟩
  · intro u c hu
    obtain ⟨g1, g2, g3, q', cs', g4, g5, g6, g7⟩ := hi.early u c (mem_parts' hu)
    refine ⟨g1, g2, g3, q', cs', g4, ?_, g6.mono2 fun _ _ hh => hh.mono hle, g7⟩
    rw [del_ne _ (hb' u c hu)]; exact g5
  · intro u c u' c' hu hu' e
    exact hi.dist u c u' c' (mem_parts' hu) (mem_parts' hu') e

/-- All that were made early ahead of a place take their places. -/
theorem Inv.absorbAll : ∀ (A2 A1 : List Item) {R : List Item} {ρ : Ren} {F' : H} {eh : EH} {n : Nat}, (∀ it ∈ A1, it.1.k = 0) → (∀ it ∈ A2, it.1.k ≠ 0 → it.2 ≠ none) →
    Inv P C Y ops N pm F ρ0 T0 tf ef nf ρ F' eh n (A1 ++ (A2 ++ R)) listed T h →
    ∃ ρ' F'' eh' n' A, Inv P C Y ops N pm F ρ0 T0 tf ef nf ρ' F'' eh' n' (A ++ R) listed T h ∧ (∀ it ∈ A, it.1.k = 0) ∧ (∀ it ∈ A, it ∈ A1 ++ A2)
  | [], A1, R, ρ, F', eh, n, h1, _, hi => ⟨ρ, F', eh, n, A1, hi, h1, fun it hit => by simpa using hit⟩
  | it :: A2, A1, R, ρ, F', eh, n, h1, h2, hi => by
    by_cases h0 : it.1.k = 0
    · have hi' : Inv P C Y ops N pm F ρ0 T0 tf ef nf ρ F' eh n ((A1 ++ [it]) ++ (A2 ++ R)) listed T h := by simpa using hi
      obtain ⟨ρ', F'', eh', n', A, g1, g2, g3⟩ := Inv.absorbAll A2 (A1 ++ [it]) (fun x hx => by
        rcases List.mem_append.1 hx with hx | hx
        · exact h1 x hx
        · rw [List.mem_singleton.1 hx]; exact h0) (fun x hx => h2 x (.tail _ hx)) hi'
      exact ⟨ρ', F'', eh', n', A, g1, g2, fun x hx => by have := g3 x hx; simpa using this⟩
    · obtain ⟨s, fl⟩ := it
      cases fl with
      | none => exact absurd rfl (h2 _ (.head _) h0)
      | some b =>
        obtain ⟨ρ', hi'⟩ := hi.absorb (A := A1) (B := A2 ++ R) h1
        obtain ⟨ρ'', F'', eh', n', A, g1, g2, g3⟩ := Inv.absorbAll A2 A1 h1 (fun x hx => h2 x (.tail _ hx)) hi'
        exact ⟨ρ'', F'', eh', n', A, g1, g2, fun x hx => by
          have := g3 x hx
          simp only [List.mem_append, List.mem_cons] at this ⊢
          rcases this with h | h
          · exact .inl h
          · exact .inr (.inr h)⟩

theorem getD_set {listed : Array Bool} {i j : Nat} (hi : i < listed.size) : (listed.setIfInBounds i true).getD j false = if j = i then true else listed.getD j false := by
  simp only [Array.getD_eq_getD_getElem?, Array.getElem?_setIfInBounds]
  by_cases e : j = i
  · subst e; simp [hi]
  · rw [if_neg (fun h => e h.symm), if_neg e]
/-- An operation is done: it leaves the list. -/
theorem Inv.done {A B : List Item} {s : Snap} (hi : Inv P C Y ops N pm F ρ0 T0 tf ef nf ρ F' eh n (A ++ (s, none) :: B) listed T h) (hpm : ∀ j, bitAt (pm s.i) j = true → listed.getD j false = true)
    {ρ' : Ren} {eh1 : EH} {n1 : Nat} {v' : Value} {h' : H} (hle : ρ.le ρ') (hs : XSim F' ρ' n1 eh1 h') (hv : RV ρ' s.v v') (hc : HeapChain ef nf eh1 n1 (A ++ B)) (hvo : ValOk P C Y ops eh1 n1 (A ++ B)) :
    Inv P C Y ops N pm F ρ0 T0 tf ef nf ρ' F' eh1 n1 (A ++ B) (listed.setIfInBounds s.i true) (tput T s.o.dst v') h' := by
  have hms : (s, none) ∈ A ++ (s, none) :: B := by simp
  obtain ⟨p1, p2, p3⟩ := pw_parts hi.pw
  simp only at p1 p2
  have hsn := hi.sn _ hms
  simp only at hsn
  have hlt : s.i < listed.size := by rw [hi.size]; exact hi.lt hms
  have hput : ∀ d, s.o.dst ≠ some d → tput T s.o.dst v' d = T d := fun d hd => by
    cases hq : s.o.dst with
    | none => rfl
    | some e =>
      have : d ≠ e := fun he => hd (by rw [hq, he])
      simp only [tput, tset]
      have : Nat.beq d e = false := Bool.eq_false_iff.2 fun h => this (Nat.eq_of_beq_eq_true h)
      rw [this, cond_false]
  have hput' : ∀ d, s.o.dst = some d → tput T s.o.dst v' d = v' := fun d hd => by
    rw [hd]; simp [tput, tset, Nat.beq_refl]
  have hnotin : ∀ it ∈ A ++ B, it.1.i ≠ s.i := by
    intro it hit
    rcases List.mem_append.1 hit with h2 | h2
    · exact (p1 _ h2).ne
    · exact fun e => (p2 _ h2).ne e.symm
  refine ⟨?_, by simp [hi.size], ?_, fun it hit => hi.sn it (mem_parts' hit), p3, Ren.le_trans hi.le hle, hi.fr, hs, hc, hvo, ?_, ?_, ?_, ?_, ?_⟩
  · intro i hlti
    rw [getD_set hlt]
    by_cases e : i = s.i
    · rw [if_pos e]
      refine ⟨fun _ => ?_, fun _ => rfl⟩
      rintro ⟨u, hu, hui⟩
      exact hnotin _ hu (hui.trans e)
    · rw [if_neg e, hi.lst i hlti]
      constructor
      · rintro h1 ⟨u, hu, hui⟩; exact h1 ⟨u, mem_parts' hu, hui⟩
      · rintro h1 ⟨u, hu, hui⟩
        rcases mem_parts hu with e2 | hu
        · cases e2; exact e hui.symm
        · exact h1 ⟨u, hu, hui⟩
  · intro i hli j hj
    rw [getD_set hlt] at hli ⊢
    by_cases e : j = s.i
    · rw [if_pos e]
    · rw [if_neg e]
      by_cases e2 : i = s.i
      · rw [e2] at hj; exact hpm j hj
      · rw [if_neg e2] at hli; exact hi.clo i hli j hj
  · intro u hu d hd v hv2
    have hum := mem_parts' (x := (s, none)) hu
    by_cases e : s.o.dst = some d
    · rcases List.mem_append.1 hu with hu2 | hu2
      · have := (p1 _ hu2).over d e hd
        simp only at this
        have h1 := hpm _ this
        rw [hi.todo hum] at h1; cases h1
      · have := ((p2 _ hu2).read d e hd).2 v hv2
        subst this
        rw [hput' d e]
        exact .inl hv
    · rw [hput d e]
      rcases hi.tok u hum d hd v hv2 with h1 | ⟨it, hit, h1, h2⟩
      · exact .inl (h1.mono hle)
      · rcases mem_parts hit with rfl | hit
        · exact absurd h1 e
        · exact .inr ⟨it, hit, h1, h2⟩
  · intro d v hv2
    by_cases e : s.o.dst = some d
    · have := hsn.fin d e v hv2
      subst this
      rw [hput' d e]
      exact .inl hv
    · rw [hput d e]
      rcases hi.fok d v hv2 with h1 | ⟨it, hit, h1⟩
      · exact .inl (h1.mono hle)
      · rcases mem_parts hit with rfl | hit
        · exact absurd h1 e
        · exact .inr ⟨it, hit, h1⟩
  · intro u c hu
    obtain ⟨g1, g2, g3, q', cs', g4, g5, g6, g7⟩ := hi.early u c (mem_parts' hu)
    refine ⟨g1, g2, g3, q', cs', g4, g5, g6.mono2 fun _ _ hh => hh.mono hle, fun d hd => ?_⟩
    have : s.o.dst ≠ some d := by
      rcases List.mem_append.1 hu with h2 | h2
      · exact (p1 _ h2).dst d hd
      · exact fun e => (p2 _ h2).dst d e hd
    rw [hput d this]; exact g7 d hd
  · intro u c u' c' hu hu' e
    exact hi.dist u c u' c' (mem_parts' hu) (mem_parts' hu') e
  · rw [tput_N hsn.ok]; exact hi.tN
end
end
end Go.Proofs.YtjdhldfeflmneaaGreat.AM
