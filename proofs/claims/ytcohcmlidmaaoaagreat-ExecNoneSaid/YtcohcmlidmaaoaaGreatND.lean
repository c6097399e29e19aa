/-
  ExecNone over the abstract memory: it returns true.
-/
import Derived.Test.YtcohcmlidmaaoaaGreatNSP
import Derived.Test.YtcohcmlidmaaoaaGreatU3
import Derived.Test.YtcohcmlidmaaoaaGreatRun5
set_option linter.unusedSimpArgs false
set_option linter.unusedVariables false
set_option maxRecDepth 100000
namespace Go.Proofs.YtcohcmlidmaaoaaGreat
open Go.Proofs.YtcohcmlidmaaoaaGreat.AM
section
variable {F : H} {ρ : Ren} {h : H} {m w q sh f mw sw fw uw : Nat} {s : List Value}
theorem same_spec {b46 : Nat} {t46 : LObj} (X : SCx F ρ m w q sh f mw sw fw uw s) (hx : Cx F ρ h) (r46 : ρ 46 = some (b46, t46)) {K : Value → H → Prop} (hk : ∀ h', K (.bool true) h') : AM.Spec Tryz.prog 9 [.pointer (some ⟨m, 0, none⟩), .pointer (some ⟨w, 0, none⟩)] h K := by
  refine F9_spec _ _ _ _ ?_
  unfold F9 F9_0
  rw [nil_ptr, field_addr, Nat.zero_add, load_cell (Sub.cellAt hx.fr X.m164)]
  obtain ⟨_, r49⟩ := X.r49
  refine ⟨rfl, use_spec hx r49 r46 fun h1 hx1 => ⟨rfl, used_spec hx1 r46 fun h2 hx2 => ?_⟩⟩
  rw [ex0', ex1', ex2']
  unfold F9_1
  refine ⟨F, ρ, m, w, q, sh, f, mw, sw, fw, uw, s, rfl, rfl, rfl, rfl, rfl, X, hx2, fun h' => ?_⟩
  exact hk h'
end
def endE : Value := .agg #[.int .i64 0, .int .u32 0, .int .i64 0, .int .i64 1, .bool false]
def endL1 : List Value := [.int .i64 0, .int .u32 0, .int .i64 0, .int .i64 1, .bool false]
theorem b_endE {K : Value → Prop} : o_build Tryz.prog 47 [(1, .int .i64 1)] K = K endE := by kernel_rfl
theorem eq_endE {K : Value → Prop} : o_bin Tryz.prog .eql 47 endE endE K = K (.bool true) := by kernel_rfl
theorem run_none {h : H} {v x0 x2 x3 : Value} {l : List Nd} (hs : Sl Nd.cells 5 h v l) (hlen : l.length < 9223372036854775807) (hg : goodB l = false) {K : Value → H → Prop} (hk : K endE h) : AM.Spec Tryz.prog 7 [x0, v, x2, x3] h K := by
  refine spec_ret (fun K hk => ?_) hk
  refine F7_spec _ _ _ _ _ _ ?_
  unfold F7 F7_0
  intro b8 hb82 hb8
  try dsimp only
  have hsub : Sub h (upd h b8 (.cells [.int .i64 0, .int .u32 0, .int .i64 0, .int .i64 0, .bool false] 47 .exact)) := Sub.new hb8
  refine ⟨by simp [hs.box], good_spec (hs.mono hsub) hlen ?_⟩
  rw [hg, un_not, Bool.not_false, if_true', b_endE, store_ok (upd_same _ _ _) (by simp) (by rfl) (by rfl) (Nat.le_refl 5)]
  try dsimp only
  rw [o_ret_u]
  try dsimp only
  rw [upd2]
  have e : setL [.int .i64 0, .int .u32 0, .int .i64 0, .int .i64 0, .bool false] 0 endE.cells.toList = endL1 := rfl
  rw [e, load_aggU (by rfl)]
  exact hk _ (Sub.new hb8)
/-! ### The machines behind pair -/
theorem LQ_out {C : CallF} {q : LQ} (h : q.Ok C) : ∃ eh, C q.f q.args (mkEH q.inp) q.n = some (q.v, eh, q.n') ∧ ∀ p ∈ q.objs, eh.get p.1 = some p.2 := by
  have hr := h.run
  cases hc : C q.f q.args (mkEH q.inp) q.n with
  | none => rw [hc] at hr; cases hr
  | some r =>
    obtain ⟨v, eh, n⟩ := r
    rw [hc] at hr
    simp only [pickR, Option.some.injEq, Prod.mk.injEq, List.map_map] at hr
    obtain ⟨rfl, h2, rfl⟩ := hr
    exact ⟨eh, rfl, fun p hp => (List.map_inj_left.1 h2) p hp⟩
def feedV : Value := .agg #[.slice none 0 0, .slice none 0 0, .slice none 0 0, .slice none 0 0, .slice none 0 0, .slice none 0 0]
def polV : Value := .agg #[.bool false, .slice none 0 0, .slice none 0 0]
theorem obj_in {i : Nat} {p : Nat × EO} (h : qn0.objs[i]? = some p) : p ∈ qn0.objs := List.mem_of_getElem? h
theorem base_sub {b : Nat} {o : EO} (hb : eB.get b = some o) : (b, o) ∈ qn0.objs ∧ b ≠ 59 ∧ b ≠ 124 := by
  have := base_in hb
  unfold baseL at this
  obtain ⟨h1, h2⟩ := List.mem_filter.1 this
  simp only [Bool.and_eq_true] at h2
  exact ⟨h1, ne_of h2.1, ne_of h2.2⟩
structure Mb (ρ : Ren) (h : H) (m : Nat) (E : TypeId) (k0 k1 k164 : Nat) : Prop where
  ex : ∃ cm, h m = some (.cells cm E .exact) ∧ cm.length = 171 ∧ (∃ b t, ρ k0 = some (b, t) ∧ cm[0]? = some (.pointer (some ⟨b, 0, none⟩))) ∧ (∃ b t, ρ k1 = some (b, t) ∧ cm[1]? = some (.pointer (some ⟨b, 0, none⟩))) ∧
    (cm.drop 36).take 128 = zT ∧ (∃ b t, ρ k164 = some (b, t) ∧ cm[164]? = some (.pointer (some ⟨b, 0, none⟩))) ∧ cm[168]? = some (.int .u32 66048) ∧ cm[169]? = some (.int .u32 66048) ∧ cm[170]? = some (.slice none 0 0)
theorem mb_of {F : H} {ρ : Ren} {n : Nat} {eh : EH} {h : H} (hs : XSim F ρ n eh h) {b m : Nat} {t : LObj} {r : R} {E : TypeId} {k0 k1 k164 : Nat} (hg : eh.get b = some (.cells r E .exact)) (hb : ρ b = some (m, t)) (hl : Nat.beq r.toL.length 171 = true)
    (c0 : r.toL[0]? = some (Pt k0 0)) (c1 : r.toL[1]? = some (Pt k1 0)) (c36 : (r.toL.drop 36).take 128 = zT) (c164 : r.toL[164]? = some (Pt k164 0)) (c168 : r.toL[168]? = some (.int .u32 66048)) (c169 : r.toL[169]? = some (.int .u32 66048)) (c170 : r.toL[170]? = some (.slice none 0 0)) : Mb ρ h m E k0 k1 k164 := by
  obtain ⟨cm, h1, h2⟩ := hs.cells hg hb
  have hp : ∀ {i k : Nat}, r.toL[i]? = some (Pt k 0) → ∃ b t, ρ k = some (b, t) ∧ cm[i]? = some (.pointer (some ⟨b, 0, none⟩)) := by
    intro i k hi
    obtain ⟨v, q1, q2⟩ := h2.get hi
    obtain ⟨b', t', q3, rfl⟩ := q2.ptr
    exact ⟨b', t', q3, q1⟩
  have hv : ∀ {i : Nat} {v : Value}, selfC v = true → r.toL[i]? = some v → cm[i]? = some v := by
    intro i v hv hi
    obtain ⟨w, q1, q2⟩ := h2.get hi
    rw [q2.self_eq hv] at q1; exact q1
  refine ⟨cm, h1, by rw [← h2.length]; exact Nat.eq_of_beq_eq_true hl, hp c0, hp c1, ?_, hp c164, hv rfl c168, hv rfl c169, hv rfl c170⟩
  refine List.ext_getElem? fun i => ?_
  by_cases hi : i < 128
  · have e : zT[i]? = some (.int .u8 0) := by unfold zT; rw [List.getElem?_replicate, if_pos hi]
    rw [e, List.getElem?_take_of_lt hi, List.getElem?_drop]
    refine hv rfl ?_
    have := congrArg (fun l => l[i]?) c36
    simp only [List.getElem?_take_of_lt hi, List.getElem?_drop] at this
    rw [this]; exact e
  · have e : zT[i]? = none := List.getElem?_eq_none (by simp [zT]; omega)
    rw [e]
    exact List.getElem?_eq_none (by rw [List.length_take]; omega)
structure PH (ρ : Ren) (h : H) (m w : Nat) : Prop where
  sim : ∃ F eh, XSim F ρ 305 eh h ∧ (∀ p ∈ qn0.objs, eh.get p.1 = some p.2)
  rm : ∃ t, ρ 59 = some (m, t)
  rw : ∃ t, ρ 124 = some (w, t)
  m : Mb ρ h m 61 62 64 49
  w : Mb ρ h w 72 122 123 121
theorem pair_spec {h : H} {bw : Nat} {K : Value → H → Prop} (hb2 : 2 ≤ bw) (hbw : h bw = none) (hk : ∀ ρ m w h', PH ρ h' m w → (∀ c o, h c = some o → h' c = some o ∧ c ≠ m ∧ c ≠ w) → K (.tuple #[.pointer (some ⟨m, 0, none⟩), .pointer (some ⟨w, 0, none⟩)]) h') :
    AM.Spec Tryz.prog 6 [.slice (some ⟨bw, 0, none⟩) 1 1, .slice none 0 0, .bool true, feedV, polV, .int .i64 60, .int .i64 5] (upd h bw (.cells [.int .u32 115] 27 .exact)) K := by
  obtain ⟨eh, hrun, hget⟩ := LQ_out qn0_ok
  obtain ⟨hle, hs⟩ := (XSim.start h).new hb2 hbw (o := .cells (.one (I .u32 115)) 27 .exact) (o' := .cells [.int .u32 115] 27 .exact) undefT rfl (.cells (.cons (.s (.self rfl)) .nil))
  refine (CC_ok _ _ _ _ _ hrun h _ _ [.slice (some ⟨bw, 0, none⟩) 1 1, .slice none 0 0, .bool true, feedV, polV, .int .i64 60, .int .i64 5] hs ?_).mono ?_
  · refine .cons (.c (.s (.slice (t := undefT) (by simp)))) (.cons (.c (.s (.self rfl))) (.cons (.c (.s (.self rfl))) (.cons (.agg ?_) (.cons (.agg ?_) (.cons (.c (.s (.self rfl))) (.cons (.c (.s (.self rfl))) .nil))))))
    · exact .cons (.s (.self rfl)) (.cons (.s (.self rfl)) (.cons (.s (.self rfl)) (.cons (.s (.self rfl)) (.cons (.s (.self rfl)) (.cons (.s (.self rfl)) .nil)))))
    · exact .cons (.s (.self rfl)) (.cons (.s (.self rfl)) (.cons (.s (.self rfl)) .nil))
  rintro v h' ⟨ρ, _, hs, hv⟩
  replace hs : XSim h ρ 305 eh h' := hs
  replace hv : RV ρ (.tup [.c (Pt 59 0), .c (Pt 124 0)]) v := hv
  have g59 := hget _ (obj_in (i := 5) rfl)
  have g124 := hget _ (obj_in (i := 38) rfl)
  obtain ⟨m, tm, rm, w, tw, rfl, rw_⟩ : ∃ m tm, ρ 59 = some (m, tm) ∧ ∃ w tw, v = .tuple #[.pointer (some ⟨m, 0, none⟩), .pointer (some ⟨w, 0, none⟩)] ∧ ρ 124 = some (w, tw) := by
    cases hv with
    | tup hv =>
      rename_i vs
      obtain ⟨l⟩ := vs
      cases hv with
      | cons ha t =>
        cases t with
        | cons hb t =>
          cases t
          obtain ⟨a, ta, a1, rfl⟩ := ha.toC.ptr
          obtain ⟨b, tb, b1, rfl⟩ := hb.toC.ptr
          exact ⟨a, ta, a1, b, tb, rfl, b1⟩
  refine hk ρ m w h' ⟨⟨h, eh, hs, hget⟩, ⟨tm, rm⟩, ⟨tw, rw_⟩, ?_, ?_⟩ fun c o hc => ⟨hs.fr c o hc, ?_, ?_⟩
  · exact mb_of hs g59 rm (by kernel_rfl) (by kernel_rfl) (by kernel_rfl) (by kernel_rfl) (by kernel_rfl) (by kernel_rfl) (by kernel_rfl) (by kernel_rfl)
  · exact mb_of hs g124 rw_ (by kernel_rfl) (by kernel_rfl) (by kernel_rfl) (by kernel_rfl) (by kernel_rfl) (by kernel_rfl) (by kernel_rfl) (by kernel_rfl)
  · rintro rfl
    have := hs.fsep _ _ _ _ g59 rfl rm
    rw [this] at hc; cases hc
  · rintro rfl
    have := hs.fsep _ _ _ _ g124 rfl rw_
    rw [this] at hc; cases hc
theorem ctx_of {ρ : Ren} {h h3 : H} {m w : Nat} {s cm cw : List Value} {E E2 : TypeId} (hp : PH ρ h m w) (hs : StC s) (hm : h m = some (.cells cm E .exact)) (hw : h w = some (.cells cw E2 .exact)) (h3e : h3 = upd (upd h m (.cells (setL cm 2 s) E .exact)) w (.cells (setL cw 2 s) E2 .exact)) :
    ∃ F q sh f mw sw fw uw b46 t46, SCx F ρ m w q sh f mw sw fw uw s ∧ Cx F ρ h3 ∧ ρ 46 = some (b46, t46) := by
  classical
  obtain ⟨F0, eh, hx, hget⟩ := hp.sim
  obtain ⟨tm, rm⟩ := hp.rm
  obtain ⟨tw, rw_⟩ := hp.rw
  have g59 := hget _ (obj_in (i := 5) rfl)
  have g124 := hget _ (obj_in (i := 38) rfl)
  have hmw : m ≠ w := fun e => by
    subst e
    have := hx.inj _ _ _ _ _ _ _ g59 rfl g124 rfl rm rw_
    cases this
  have live : ∀ {b : Nat} {o : EO}, eB.get b = some o → eh.get b = some o ∧ isDead o = false ∧ b ≠ 59 ∧ b ≠ 124 := by
    intro b o hb
    obtain ⟨h1, h2, h3⟩ := base_sub hb
    have hok := base_okO hb
    refine ⟨hget _ h1, ?_, h2, h3⟩
    cases o <;> first | rfl | cases hok
  have img : ∀ {b : Nat} {o : EO} {x : Nat} {t : LObj}, eB.get b = some o → ρ b = some (x, t) → x ≠ m ∧ x ≠ w := by
    intro b o x t hb hr
    obtain ⟨l1, l2, l3, l4⟩ := live hb
    exact ⟨fun e => l3 (hx.inj _ _ _ _ _ _ _ l1 l2 g59 rfl hr (e ▸ rm)), fun e => l4 (hx.inj _ _ _ _ _ _ _ l1 l2 g124 rfl hr (e ▸ rw_))⟩
  have out3 : ∀ c, c ≠ m → c ≠ w → h3 c = h c := fun c h1 h2 => by rw [h3e, upd_ne _ _ h2, upd_ne _ _ h1]
  have hm3 : h3 m = some (.cells (setL cm 2 s) E .exact) := by rw [h3e, upd_ne _ _ hmw, upd_same]
  have hw3 : h3 w = some (.cells (setL cw 2 s) E2 .exact) := by rw [h3e, upd_same]
  let F : H := fun c => if ∃ b o t, eB.get b = some o ∧ ρ b = some (c, t) then none else h3 c
  have Fm : F m = some (.cells (setL cm 2 s) E .exact) := by
    show (if _ then none else h3 m) = _
    rw [if_neg, hm3]
    rintro ⟨b, o, t, h1, h2⟩
    exact (img h1 h2).1 rfl
  have Fw : F w = some (.cells (setL cw 2 s) E2 .exact) := by
    show (if _ then none else h3 w) = _
    rw [if_neg, hw3]
    rintro ⟨b, o, t, h1, h2⟩
    exact (img h1 h2).2 rfl
  have hcx : Cx F ρ h3 := by
    refine ⟨hx.z0, hx.z1, hx.two, hx.top, hx.n2, fun b o hb hd => ?_, fun b c o o' x t t' hb hd hc hd' => ?_, fun c o hc => ?_, fun b o x t hb hd hr => ?_⟩
    · obtain ⟨l1, l2, _, _⟩ := live hb
      obtain ⟨b', τ, o', q1, q2, q3⟩ := hx.obj b o l1 l2
      obtain ⟨n1, n2⟩ := img hb q1
      exact ⟨b', τ, o', q1, by rw [out3 _ n1 n2]; exact q2, q3⟩
    · exact hx.inj _ _ _ _ _ _ _ (live hb).1 hd (live hc).1 hd'
    · have : (if ∃ b o t, eB.get b = some o ∧ ρ b = some (c, t) then none else h3 c) = some o := hc
      split at this
      · cases this
      · exact this
    · show (if _ then none else h3 x) = none
      rw [if_pos ⟨b, o, t, hb, hr⟩]
  obtain ⟨cm', a1, a2, ⟨q, tq, a3, a4⟩, ⟨sh, ts, a5, a6⟩, a7, ⟨f, tf, a8, a9⟩, a10, a11, a12⟩ := hp.m.ex
  obtain ⟨cw', d1, d2, ⟨mw, tmw, d3, d4⟩, ⟨sw, tsw, d5, d6⟩, d7, ⟨fw, tfw, d8, d9⟩, d10, d11, d12⟩ := hp.w.ex
  rw [hm] at a1
  cases a1
  rw [hw] at d1
  cases d1
  have sl := hs.len
  have cellOf : ∀ {b : Nat} {c : List Value} {E' : TypeId} {i : Nat} {v : Value}, F b = some (.cells (setL c 2 s) E' .exact) → (i < 2 ∨ 36 ≤ i) → c[i]? = some v → AM.cellAt F b i = some v := by
    intro b c E' i v hb hi hv
    rw [cellAt_of hb, sl_out (by omega)]; exact hv
  have midOf : ∀ {b : Nat} {c : List Value} {E' : TypeId}, F b = some (.cells (setL c 2 s) E' .exact) → c.length = 171 → AM.cellsAt F b 2 34 = some s := by
    intro b c E' hb hl
    rw [cellsAt_of hb (by rw [setL_length]; omega)]
    refine congrArg some (List.ext_getElem? fun i => ?_)
    by_cases hi : i < 34
    · rw [List.getElem?_take_of_lt hi, List.getElem?_drop, sl_in (by omega) (by omega) (by omega)]
      congr 1; omega
    · rw [List.getElem?_eq_none (by rw [List.length_take]; omega), List.getElem?_eq_none (by omega)]
  have tagOf : ∀ {b : Nat} {c : List Value} {E' : TypeId}, F b = some (.cells (setL c 2 s) E' .exact) → c.length = 171 → (c.drop 36).take 128 = zT → AM.cellsAt F b 36 128 = some zT := by
    intro b c E' hb hl hz
    rw [cellsAt_of hb (by rw [setL_length]; omega), ← hz]
    refine congrArg some (List.ext_getElem? fun i => ?_)
    by_cases hi : i < 128
    · rw [List.getElem?_take_of_lt hi, List.getElem?_drop, List.getElem?_take_of_lt hi, List.getElem?_drop, sl_out (by omega)]
    · rw [List.getElem?_eq_none (by rw [List.length_take]; omega), List.getElem?_eq_none (by rw [List.length_take]; omega)]
  have g121 : ∃ r E m, eB.get 121 = some (.cells r E m) ∧ r.toL[0]? = some (Pt 119 0) := ⟨_, _, _, rfl, by kernel_rfl⟩
  have g119 : ∃ r E m, eB.get 119 = some (.cells r E m) ∧ r.toL[6]? = some (I .i64 0) ∧ r.toL[7]? = some (I .i64 0) ∧ r.toL[8]? = some (I .i64 0) := ⟨_, _, _, rfl, by kernel_rfl, by kernel_rfl, by kernel_rfl⟩
  have g46 : ∃ o, eB.get 46 = some o := ⟨_, rfl⟩
  obtain ⟨r121, E121, m121, e1, e2⟩ := g121
  obtain ⟨r119, E119, m119, e3, e4, e5, e6⟩ := g119
  obtain ⟨o46, e7⟩ := g46
  obtain ⟨b46, t46, _, k46, _, _⟩ := hcx.obj 46 _ e7 (live e7).2.1
  obtain ⟨c121, y1, y2⟩ := hcx.cells e1 d8
  obtain ⟨v0, z1, z2⟩ := y2.get e2
  obtain ⟨uw, tu, z3, rfl⟩ := z2.ptr
  have uAt : ∀ {i : Nat}, r119.toL[i]? = some (I .i64 0) → ∀ h, Cx F ρ h → AM.cellAt h uw i = some (.int .i64 0) := by
    intro i hi h hc
    obtain ⟨c, k1, k2⟩ := hc.cells e3 z3
    obtain ⟨v, k3, k4⟩ := k2.get hi
    rw [k4.self_eq rfl] at k3
    rw [cellAt_of k1]; exact k3
  refine ⟨F, q, sh, f, mw, sw, fw, uw, b46, t46, ⟨hs, ⟨_, a3⟩, ⟨_, a5⟩, ⟨_, a8⟩, ⟨_, d3⟩, ⟨_, d5⟩, ⟨_, d8⟩, cellOf Fm (by omega) a4, cellOf Fm (by omega) a6, midOf Fm a2, tagOf Fm a2 a7, cellOf Fm (by omega) a9, cellOf Fm (by omega) a10, cellOf Fm (by omega) a11, cellOf Fm (by omega) a12,
    cellOf Fw (by omega) d4, cellOf Fw (by omega) d6, midOf Fw d2, tagOf Fw d2 d7, cellOf Fw (by omega) d9, cellOf Fw (by omega) d10, cellOf Fw (by omega) d11, cellOf Fw (by omega) d12, fun h hc => ?_, uAt e4, uAt e5, uAt e6⟩, hcx, k46⟩
  obtain ⟨c, k1, k2⟩ := hc.cells e1 d8
  obtain ⟨v, k3, k4⟩ := k2.get e2
  obtain ⟨b', t', k5, rfl⟩ := k4.ptr
  rw [z3] at k5; cases k5
  rw [cellAt_of k1]; exact k3
theorem litw : litCells Tryz.prog 28 1 [(0, .int .u32 115)] = some ([.int .u32 115], 27) := by kernel_rfl
theorem b_feed {K : Value → Prop} : o_build Tryz.prog 34 [] K = K feedV := by kernel_rfl
theorem b_pol {K : Value → Prop} : o_build Tryz.prog 38 [] K = K polV := by kernel_rfl
theorem eqlM {a : Addr} {K : Value → Prop} : o_bin Tryz.prog .eql 23 (.pointer (some a)) (.pointer none) K = K (.bool false) := by
  have hu : Tryz.prog.underlying 23 = some (.pointer 61) := by kernel_rfl
  unfold o_bin
  have : (selfV (.pointer (some a)) && selfV (.pointer none) && okEq Tryz.prog .eql 23 (.pointer (some a)) (.pointer none)) = false := rfl
  simp only [this, cond_false, hu]
  rfl
theorem execNone_am {v : Value} {l : List Nd} {s : List Value} {fuel r : Int} {h : H} {Q : Value → H → Prop} (hv : Sl Nd.cells 5 h v l) (hs : StC s) (h33 : s[33]? = some (.int .i64 r)) (hq : ∀ h', Q (.bool true) h') : AM.Spec Tryz.prog 4 [v, .agg s.toArray, .int .i64 fuel] h Q := by
  refine F4_spec _ _ _ _ _ ?_
  unfold F4 F4_0
  refine ⟨rfl, fun b4 hb42 hb4 => ?_⟩
  try dsimp only
  have es : (Value.cells (.agg s.toArray)).toList = s := rfl
  rw [es]
  have hv1 := hv.mono (Sub.new (o := .cells s 51 .exact) hb4)
  have hb41 : upd h b4 (.cells s 51 .exact) b4 = some (.cells s 51 .exact) := upd_same _ _ _
  generalize upd h b4 (.cells s 51 .exact) = h1 at *
  refine ⟨rfl, (awake5 h1).mono ?_⟩
  rintro v0 h2 ⟨rfl, hsub⟩
  have hv2 := hv1.mono hsub
  have hb42' := hsub _ _ hb41
  rw [un_not, Bool.not_true, if_false']
  have hld : ∀ K : Value → Prop, o_load false 1 (.pointer (some ⟨b4, 33, none⟩)) h2 K = K (.int .i64 r) := fun K => load_cell (by rw [cellAt_of hb42']; exact h33)
  simp only [hv2.len, bin_gtr, field_addr, Nat.zero_add, hld, bin_lss, guard_or, or_val]
  refine or_op (b := goodB l) (fun hf K hk => ⟨by simp [hv2.box], good_spec hv2 (by
    simp only [Bool.or_eq_false_iff, decide_eq_false_iff_not] at hf
    have := hf.1.1
    omega) hk⟩) ?_
  cases hbad : (decide ((60 : Int) < (l.length : Int)) || decide (r < 0) || decide ((1099511627776 : Int) < r) || goodB l)
  · rw [if_false']
    simp only [Bool.or_eq_false_iff] at hbad
    have hg := hbad.2
    have hlen : l.length < 9223372036854775807 := by
      have := of_decide_eq_false hbad.1.1.1
      omega
    unfold o_buildSlice
    rw [litw]
    intro bw hbw2 hbw
    try dsimp only
    rw [b_feed, b_pol]
    refine ⟨rfl, pair_spec hbw2 hbw fun ρ m w h3 hp hkeep => ?_⟩
    rw [ex0, ex1, eqlM, if_false']
    unfold F4_1
    obtain ⟨k1, k2, k3⟩ := hkeep b4 _ hb42'
    have hv3 : Sl Nd.cells 5 h3 v l := hv2.mono fun c o hc => (hkeep c o hc).1
    obtain ⟨cm, m1, m2, _⟩ := hp.m.ex
    obtain ⟨cw, w1, w2, _⟩ := hp.w.ex
    have hmw : m ≠ w := fun e => by
      obtain ⟨F0, eh, hx, hget⟩ := hp.sim
      obtain ⟨tm, rm⟩ := hp.rm
      obtain ⟨tw, rw_⟩ := hp.rw
      have := hx.inj _ _ _ _ _ _ _ (hget _ (obj_in (i := 5) rfl)) rfl (hget _ (obj_in (i := 38) rfl)) rfl rm (e ▸ rw_)
      cases this
    refine ⟨b4, m, w, cm, cw, s, _, _, rfl, rfl, rfl, k2, k3, hmw, by rw [cellsAt_of k1 (by rw [hs.len]; decide)]; simp [List.take_of_length_le, hs.len], hs.len, m1, m2, w1, w2, ?_⟩
    obtain ⟨F, q, sh, f, mw, sw, fw, uw, b46, t46, X, hx, r46⟩ := ctx_of hp hs m1 w1 rfl
    have hv4 : Sl Nd.cells 5 (upd (upd h3 m (.cells (setL cm 2 s) 61 .exact)) w (.cells (setL cw 2 s) 72 .exact)) v l := by
      obtain ⟨z1, ⟨z2, z3⟩ | ⟨b, o, c, z3, z4⟩⟩ := hv2
      · exact ⟨z1, .inl ⟨z2, z3⟩⟩
      · refine ⟨z1, .inr ⟨b, o, c, z3, fun hne => ?_⟩⟩
        have h5 := z4 hne
        unfold AM.cellsAt at h5 ⊢
        cases hq2 : h2 b with
        | none => rw [hq2] at h5; cases h5
        | some ob =>
          obtain ⟨n1, n2, n3⟩ := hkeep b _ hq2
          rw [upd_ne _ _ n3, upd_ne _ _ n2, n1]
          rw [hq2] at h5; exact h5
    generalize upd (upd h3 m (.cells (setL cm 2 s) 61 .exact)) w (.cells (setL cw 2 s) 72 .exact) = h4 at *
    unfold F4_3
    refine ⟨by simp [hv4.box, bx_ptr, bx_int, bx_bool], run_none hv4 hlen hg ?_⟩
    intro b9 hb92 hb9
    try dsimp only
    rw [store_ok (upd_same _ _ _) (by simp) (by rfl) (by rfl) (Nat.le_refl 5), upd2]
    have e : setL [.int .i64 0, .int .u32 0, .int .i64 0, .int .i64 0, .bool false] 0 endE.cells.toList = endL1 := rfl
    rw [e, load_aggU (by rfl), b_endE]
    have e2 : Value.agg endL1.toArray = endE := rfl
    rw [e2, eq_endE, guard_tt]
    refine ⟨rfl, same_spec X (XSim.sub hx (Sub.new hb9)) r46 fun h' => ?_⟩
    try dsimp only
    rw [pick_true]
    exact hq _
  · rw [if_true']
    exact hq _
end Go.Proofs.YtcohcmlidmaaoaaGreat
