/-
  Calls that leave two machines as they are: what is known of the machines before is known behind.
-/
import Derived.Test.YtcohcmlidmaaoaaGreatNB2
set_option linter.unusedSimpArgs false
set_option linter.unusedVariables false
set_option maxRecDepth 100000
namespace Go.Proofs.YtcohcmlidmaaoaaGreat.AM
section
variable {F : H} {ρ ρ' : Ren} {n n' : Nat} {eh eh' : EH} {h h' : H}
def noFn : Value → Bool
  | .func _ _ _ | .iface _ _ => false
  | _ => true
theorem RS.fn {v a b : Value} (h1 : RS ρ v a) (h2 : RS ρ v b) : a = b := by
  cases h1 with
  | self h1 =>
    cases h2 with
    | self h2 => rfl
    | ptr h2 => cases h1
    | slice h2 => cases h1
    | map h2 => cases h1
  | ptr h1 =>
    cases h2 with
    | self h2 => cases h2
    | ptr h2 => rw [h1] at h2; cases h2; rfl
  | slice h1 =>
    cases h2 with
    | self h2 => cases h2
    | slice h2 => rw [h1] at h2; cases h2; rfl
  | map h1 =>
    cases h2 with
    | self h2 => cases h2
    | map h2 => rw [h1] at h2; cases h2; rfl
theorem RC.fn {v a b : Value} (hv : noFn v = true) (h1 : RC ρ v a) (h2 : RC ρ v b) : a = b := by
  cases h1 with
  | s h1 =>
    cases h2 with
    | s h2 => exact h1.fn h2
    | func f h k => cases hv
    | yield h => cases hv
    | iface t h => cases hv
  | func f h k => cases hv
  | yield h => cases hv
  | iface t h => cases hv
theorem RCs.fn : ∀ {l a b : List Value}, l.all noFn = true → All2 (RC ρ) l a → All2 (RC ρ) l b → a = b
  | [], _, _, _, .nil, .nil => rfl
  | v :: l, _, _, hl, .cons h1 t1, .cons h2 t2 => by
    simp only [List.all_cons, Bool.and_eq_true] at hl
    rw [h1.fn hl.1 h2, RCs.fn hl.2 t1 t2]
def okA : XA → Bool
  | .c v => noFn v
  | .agg r => r.toL.all noFn
theorem RA.fn {x : XA} {a b : Value} (hx : okA x = true) (h1 : RA ρ x a) (h2 : RA ρ x b) : a = b := by
  cases h1 with
  | c h1 => cases h2 with | c h2 => exact h1.fn hx h2
  | agg h1 =>
    cases h2 with
    | agg h2 =>
      rename_i cs1 cs2
      obtain ⟨l1⟩ := cs1
      obtain ⟨l2⟩ := cs2
      have := RCs.fn hx h1 h2
      simp only at this
      rw [this]
def okO : EO → Bool
  | .cells r _ _ => r.toL.all noFn
  | .map _ es _ => es.all fun e => okA e.2
  | _ => false
theorem RMs.fn : ∀ {es : List (Value × XA)} {a b : List (Value × Value)}, (es.all fun e => okA e.2) = true → All2 (fun e e' => e'.1 = e.1 ∧ RA ρ e.2 e'.2) es a → All2 (fun e e' => e'.1 = e.1 ∧ RA ρ e.2 e'.2) es b → a = b
  | [], _, _, _, .nil, .nil => rfl
  | e :: l, _, _, hl, .cons (b := x) h1 t1, .cons (b := y) h2 t2 => by
    simp only [List.all_cons, Bool.and_eq_true] at hl
    have e1 : x = y := Prod.ext (h1.1.trans h2.1.symm) (h1.2.fn hl.1 h2.2)
    rw [e1, RMs.fn hl.2 t1 t2]
theorem RO.back {τ : LObj} {o : EO} {a b : AObj} (hle : ρ.le ρ') (ho : okO o = true) (h1 : RO ρ τ o a) (h2 : RO ρ' τ o b) : RO ρ τ o b := by
  cases h1 with
  | cells h1 =>
    cases h2 with
    | cells h2 =>
      have := RCs.fn ho (h1.mono2 fun _ _ h => h.mono hle) h2
      rw [← this]; exact .cells h1
  | map h1 p1 d1 =>
    cases h2 with
    | map h2 p2 d2 =>
      have := RMs.fn ho (h1.mono2 fun _ _ h => ⟨h.1, h.2.mono hle⟩) h2
      subst this
      exact .map h1 p2 d2
  | iterN => cases ho
  | iter h hp => cases ho
  | loop hL ht => cases ho
  | defer => cases ho
theorem XSim.back (h0 : XSim F ρ n eh h) (h1 : XSim F ρ' n' eh' h') (hle : ρ.le ρ') (hsame : ∀ b o, eh.get b = some o → eh'.get b = some o) (hok : ∀ b o, eh.get b = some o → okO o = true) : XSim F ρ n eh h' where
  z0 := h0.z0
  z1 := h0.z1
  two := h0.two
  top := h0.top
  n2 := h0.n2
  obj b o hb hd := by
    obtain ⟨b1, t1, o1, q1, q2, q3⟩ := h0.obj b o hb hd
    obtain ⟨b2, t2, o2, r1, r2, r3⟩ := h1.obj b o (hsame b o hb) hd
    have := hle b _ q1
    rw [this] at r1
    cases r1
    exact ⟨b1, t1, o2, q1, r2, q3.back hle (hok b o hb) r3⟩
  inj := h0.inj
  fr := h1.fr
  fsep := h0.fsep
end
end Go.Proofs.YtcohcmlidmaaoaaGreat.AM
namespace Go.Proofs.YtcohcmlidmaaoaaGreat
open Go.Proofs.YtcohcmlidmaaoaaGreat.AM
section
variable {F : H} {ρ : Ren} {h : H}
theorem base_in {b : Nat} {o : EO} (hb : eB.get b = some o) : (b, o) ∈ baseL := mkEH_get hb
theorem base_ok : (baseL.all fun p => okO p.2) = true := by kernel_rfl
theorem base_okO {b : Nat} {o : EO} (hb : eB.get b = some o) : okO o = true := List.all_eq_true.1 base_ok _ (base_in hb)
theorem same_of {eh : EH} (he : (namesB.map fun b => eh.get b) = objsB) {b : Nat} {o : EO} (hb : eB.get b = some o) : eh.get b = some o := by
  unfold namesB objsB at he
  rw [List.map_map] at he
  exact (List.map_inj_left.1 he) (b, o) (base_in hb)
abbrev Cx (F : H) (ρ : Ren) (h : H) : Prop := XSim F ρ 305 eB h
theorem call_of {f : Nat} {args : List XA} {v : XV} (hp : pick2 (CN f args eB 305) namesB = some (v, objsB)) (hs : Cx F ρ h) {args' : List Value} (ha : All2 (RA ρ) args args') {K : Value → H → Prop} (hk : ∀ ρ' v' h', ρ.le ρ' → Cx F ρ h' → RV ρ' v v' → K v' h') : AM.Spec Tryz.prog f args' h K := by
  unfold pick2 at hp
  split at hp
  · rename_i v0 eh n0 he
    simp only [Option.some.injEq, Prod.mk.injEq] at hp
    obtain ⟨rfl, hsame⟩ := hp
    refine (CN_ok _ _ _ _ _ he F ρ h args' hs ha).mono ?_
    rintro v' h' ⟨ρ', hle, hs', hv⟩
    exact hk ρ' v' h' hle (hs.back hs' hle (fun b o hb => same_of hsame hb) fun b o hb => base_okO hb) hv
  · cases hp
theorem ptrA {b b' : Nat} {t : LObj} (hb : ρ b = some (b', t)) : RA ρ (.c (Pt b 0)) (.pointer (some ⟨b', 0, none⟩)) := .c (.s (.ptr hb))
theorem selfA' {v : Value} (hv : selfC v = true) : RA ρ (.c v) v := .c (.s (.self hv))
theorem rv_self {ρ' : Ren} {v w : Value} (hv : selfC v = true) (h : RV ρ' (.a (.c v)) w) : w = v := by
  cases h with | a h => exact h.toC.self_eq hv
theorem use_spec {b49 b46 : Nat} {t t' : LObj} (hs : Cx F ρ h) (r49 : ρ 49 = some (b49, t)) (r46 : ρ 46 = some (b46, t')) {K : Value → H → Prop} (hk : ∀ h', Cx F ρ h' → K (.pointer (some ⟨b46, 0, none⟩)) h') : AM.Spec Tryz.prog 23 [.pointer (some ⟨b49, 0, none⟩)] h K := by
  refine call_of f_use hs (.cons (ptrA r49) .nil) fun ρ' v' h' hle hs' hv => ?_
  have : v' = .pointer (some ⟨b46, 0, none⟩) := by
    cases hv with
    | a hv =>
      obtain ⟨b', t2, q1, rfl⟩ := hv.toC.ptr
      rw [hle _ _ r46] at q1; cases q1; rfl
  rw [this]; exact hk h' hs'
theorem used_spec {b46 : Nat} {t' : LObj} (hs : Cx F ρ h) (r46 : ρ 46 = some (b46, t')) {K : Value → H → Prop} (hk : ∀ h', Cx F ρ h' → K (.tuple #[.int .i64 0, .int .i64 0, .int .i64 0]) h') : AM.Spec Tryz.prog 24 [.pointer (some ⟨b46, 0, none⟩)] h K := by
  refine call_of f_used hs (.cons (ptrA r46) .nil) fun ρ' v' h' hle hs' hv => ?_
  have : v' = .tuple #[.int .i64 0, .int .i64 0, .int .i64 0] := by
    cases hv with
    | tup hv =>
      rename_i vs
      obtain ⟨l⟩ := vs
      cases hv with
      | cons h1 t =>
        cases t with
        | cons h2 t =>
          cases t with
          | cons h3 t =>
            cases t
            rw [h1.toC.self_eq rfl, h2.toC.self_eq rfl, h3.toC.self_eq rfl]
  rw [this]; exact hk h' hs'
theorem told_spec (hs : Cx F ρ h) {K : Value → H → Prop} (hk : ∀ h', Cx F ρ h' → K (.bool true) h') : AM.Spec Tryz.prog 32 [.slice none 0 0, .slice none 0 0] h K :=
  call_of f_told hs (.cons (selfA' rfl) (.cons (selfA' rfl) .nil)) fun ρ' v' h' hle hs' hv => by rw [rv_self rfl hv]; exact hk h' hs'
theorem out_spec {b49 : Nat} {t : LObj} {k : Int} (hkk : k = 1 ∨ k = 2) (hs : Cx F ρ h) (r49 : ρ 49 = some (b49, t)) {K : Value → H → Prop} (hk : ∀ h', Cx F ρ h' → K (.slice none 0 0) h') : AM.Spec Tryz.prog 33 [.pointer (some ⟨b49, 0, none⟩), .int .i64 k] h K := by
  rcases hkk with rfl | rfl
  · exact call_of f_out1 hs (.cons (ptrA r49) (.cons (selfA' rfl) .nil)) fun ρ' v' h' hle hs' hv => by rw [rv_self rfl hv]; exact hk h' hs'
  · exact call_of f_out2 hs (.cons (ptrA r49) (.cons (selfA' rfl) .nil)) fun ρ' v' h' hle hs' hv => by rw [rv_self rfl hv]; exact hk h' hs'
theorem out7_spec {b : Nat} {t : LObj} {k : Int} (hkk : k = 1 ∨ k = 2) (hs : Cx F ρ h) (r : ρ 121 = some (b, t)) {K : Value → H → Prop} (hk : ∀ h', Cx F ρ h' → K (.slice none 0 0) h') : AM.Spec Tryz.prog 34 [.pointer (some ⟨b, 0, none⟩), .int .i64 k] h K := by
  rcases hkk with rfl | rfl
  · exact call_of f_out71 hs (.cons (ptrA r) (.cons (selfA' rfl) .nil)) fun ρ' v' h' hle hs' hv => by rw [rv_self rfl hv]; exact hk h' hs'
  · exact call_of f_out72 hs (.cons (ptrA r) (.cons (selfA' rfl) .nil)) fun ρ' v' h' hle hs' hv => by rw [rv_self rfl hv]; exact hk h' hs'
def SSp (F : H) (ρ : Ren) (w b : Nat) (h : H) : Prop := ∀ K : Value → H → Prop, (∀ h', Cx F ρ h' → K (.bool true) h') → AM.Spec Tryz.prog 27 [.pointer (some ⟨b, 0, none⟩), .pointer (some ⟨w, 0, none⟩)] h K
theorem shadow_spec {b64 w : Nat} {t t' : LObj} (hs : Cx F ρ h) (r64 : ρ 64 = some (b64, t)) (r123 : ρ 123 = some (w, t')) {K : Value → H → Prop} (hk : ∀ b h', Cx F ρ h' → SSp F ρ w b h' → K (.pointer (some ⟨b, 0, none⟩)) h') : AM.Spec Tryz.prog 28 [.pointer (some ⟨b64, 0, none⟩), .int .i64 1] h K := by
  have hp := f_shadow
  unfold pairRun at hp
  split at hp
  · rename_i b eh1 n1 he1
    split at hp
    · rename_i v eh2 n2 he2
      simp only [Option.some.injEq, Prod.mk.injEq] at hp
      obtain ⟨rfl, hs1, hs2⟩ := hp
      refine (CN_ok _ _ _ _ _ he1 F ρ h _ hs (.cons (ptrA r64) (.cons (selfA' rfl) .nil))).mono ?_
      rintro v' h' ⟨ρ1, hle, hx, hv⟩
      cases hv with
      | a hv =>
        obtain ⟨b', t2, q1, rfl⟩ := hv.toC.ptr
        have hb := hs.back hx hle (fun b o hb => same_of hs1 hb) fun b o hb => base_okO hb
        refine hk b' h' hb fun K2 hk2 => ?_
        refine (CN_ok _ _ _ _ _ he2 F ρ1 h' _ hx (.cons (.c (.s (.ptr q1))) (.cons (.c (.s (.ptr (hle _ _ r123)))) .nil))).mono ?_
        rintro v2 h2 ⟨ρ2, hle2, hx2, hv2⟩
        rw [rv_self rfl hv2]
        exact hk2 h2 (hb.back hx2 (Ren.le_trans hle hle2) (fun b o hb => same_of hs2 hb) fun b o hb => base_okO hb)
    · cases hp
  · cases hp
def SMp (w b : Nat) (h : H) : Prop := ∀ K : Value → H → Prop, K (.bool true) h → AM.Spec Tryz.prog 25 [.pointer (some ⟨b, 0, none⟩), .pointer (some ⟨w, 0, none⟩)] h K
theorem pgL_facts : pgL.flatMap (fun x => x) = r300 ∧ pgL.length = 22 ∧ ∀ x ∈ pgL, x.length = 258 := chunk_flat 22 r300 (by rw [Nat.eq_of_beq_eq_true f_pg_len])
theorem sl_pgL {h : H} {b c : Nat} {cs : List Value} {E : TypeId} {m : AM.Own} (hb : h b = some (.cells cs E m)) (hcs : cs.take 5676 = r300) : Sl (fun x => x) 258 h (.slice (some ⟨b, 0, none⟩) 22 c) pgL := by
  obtain ⟨h1, h2, h3⟩ := pgL_facts
  have hl : r300.length = 5676 := Nat.eq_of_beq_eq_true f_pg_len
  have := Sl.of_block (enc := fun x : List Value => x) (sz := 258) (b := b) (o := 0) (c := c) (l := pgL) h3 hb (by rw [h2, h1, List.drop_zero]; exact hcs) (by
    rw [h2]
    have := congrArg List.length hcs
    rw [List.length_take, hl] at this
    omega)
  rw [h2] at this
  exact this
theorem g122 : ∃ r E m, eB.get 122 = some (.cells r E m) ∧ r.toL[1]? = some (Ls 300 0 22 22) := ⟨_, _, _, rfl, by kernel_rfl⟩
theorem g300 : ∃ r E m, eB.get 300 = some (.cells r E m) ∧ r.toL = r300 ∧ (r.toL.all selfC) = true := by
  refine ⟨_, _, _, rfl, ?_, ?_⟩
  · unfold r300; rfl
  · kernel_rfl
theorem all2_id {l m : List Value} (h : All2 (RC ρ) l m) (hl : l.all selfC = true) : m = l := AM.all2_self h hl
theorem mem_spec {q w : Nat} {t t' : LObj} (hs : Cx F ρ h) (r62 : ρ 62 = some (q, t)) (r122 : ρ 122 = some (w, t')) {K : Value → H → Prop} (hk : ∀ b h', Cx F ρ h' → SMp w b h' → K (.pointer (some ⟨b, 0, none⟩)) h') : AM.Spec Tryz.prog 26 [.pointer (some ⟨q, 0, none⟩), .int .i64 1] h K := by
  have hp1 := f_mem_base
  have hp2 := f_mem_pages
  cases he : mem2Run with
  | none => rw [he] at hp1; cases hp1
  | some r =>
    obtain ⟨v, eh1, n1⟩ := r
    rw [he] at hp1 hp2
    simp only [Option.some.injEq] at hp1
    split at hp2
    rotate_left
    · cases hp2
    rename_i b eh2 n2 heq
    cases heq
    split at hp2
    rotate_left
    · cases hp2
    rename_i rb Eb wb gb
    split at hp2
    rotate_left
    · cases hp2
    rename_i bL c g1
    split at hp2
    rotate_left
    · cases hp2
    rename_i rL EL wL gL
    obtain ⟨e1, e2⟩ := eqVs_eq hp2
    unfold mem2Run at he
    refine (CN_ok _ _ _ _ _ he F ρ h _ hs (.cons (ptrA r62) (.cons (selfA' rfl) .nil))).mono ?_
    rintro v' h' ⟨ρ1, hle, hx, hv⟩
    cases hv with
    | a hv =>
      obtain ⟨b', t2, q1, rfl⟩ := hv.toC.ptr
      have hb := hs.back hx hle (fun b o hb => same_of hp1 hb) fun b o hb => base_okO hb
      refine hk b' h' hb fun K2 hk2 => ?_
      obtain ⟨cb, p1, p2⟩ := hx.cells gb q1
      rw [R.get_eq] at g1
      obtain ⟨v1, s1, s2⟩ := p2.get g1
      obtain ⟨bL', t3, u1, rfl⟩ := s2.sl
      obtain ⟨cL, w1, w2⟩ := hx.cells gL u1
      have hcL : cL.take 5676 = r300 := by
        have h5 := w2.take 5676
        have := all2_id h5 (List.all_eq_true.2 e2)
        rw [this, e1]
      obtain ⟨r2, E2, m2, k1, k2⟩ := g122
      obtain ⟨cw, x1, x2⟩ := hb.cells k1 r122
      obtain ⟨v2, y1, y2⟩ := x2.get k2
      obtain ⟨b3, t4, z1, rfl⟩ := y2.sl
      obtain ⟨r3, E3, m3, l1, l2, l3⟩ := g300
      obtain ⟨c3, o1, o2⟩ := hb.cells l1 z1
      have hc3 : c3 = r300 := by rw [all2_id o2 l3, l2]
      have hl : r300.length = 5676 := Nat.eq_of_beq_eq_true f_pg_len
      exact sameMem_spec (by rw [cellAt_of p1]; exact s1) (by rw [cellAt_of x1]; exact y1) (sl_pgL w1 hcL) (sl_pgL o1 (by rw [hc3, List.take_of_length_le (by omega)])) (by rw [pgL_facts.2.1]; decide) pgL_ok hk2
end
end Go.Proofs.YtcohcmlidmaaoaaGreat
