/-
  Part of a proof: several texts put together, long names shortened.
-/
import Derived.Test.YtnckimioabkheaaGreatZ5
import Derived.Test.YtnckimioabkheaaGreatZ3
import Derived.KernelRfl
set_option linter.unusedSimpArgs false
set_option linter.unusedVariables false
set_option maxRecDepth 100000
namespace Go.Proofs.YtnckimioabkheaaGreat
open AM
theorem y1s4 {a n : Int} {p : Int} {z : Option Addr} {l c : Nat} {h : H} {K : K1} {u : Dm K} : ynqb PG y1cj 1 [(0, .agg #[.int .u32 a, .int .u32 n, .int .i64 p, .slice z l c])] h K u = u_new [.int .u32 a, .int .u32 n, .int .i64 p, .slice z l c] yhas .exact h fun b h => K (.slice (some ⟨b, 0, none⟩) 1 1) h := by kernel_rfl
section
variable {h : H} {K : K1}
theorem yen8 {e : Int} {vs : Value} {segs : List Sg} (hv : Sl sgC 4 h vs segs) (hsl : ∀ s ∈ segs, ∃ z l c, s.2.2.2 = .slice z l c) (hlen : segs.length ≤ 1000) (hk : ∀ v h', Sub h h' → Sl sgC 4 h' v segs → K (.agg #[.int .u32 e, v]) h') :
    AM.Spec PG yp9s [.agg #[.int .u32 e, vs]] h K := by
  refine ye68 _ _ _ ?_
  have hvb := hv.box
  simp (config := {dsimp := false}) [↓yelf, ↓ys00, hvb]
  intro b1 _ hb1 b2 _ n1 n2 hb2
  have c1 : upd (upd h b1 (.cells [.int .u32 e, vs] y33u .exact)) b2 (.cells [.int .u32 0, nilV] yr7r .exact) b1 = some (.cells [.int .u32 e, vs] y33u .exact) := by rw [yrkk _ _ n2, yy0e]
  have c2 := yy0e (upd h b1 (.cells [.int .u32 e, vs] y33u .exact)) b2 (.cells [.int .u32 0, nilV] yr7r .exact)
  have s2 : Sub h (upd (upd h b1 (.cells [.int .u32 e, vs] y33u .exact)) b2 (.cells [.int .u32 0, nilV] yr7r .exact)) := Sub.upd (Sub.new hb1) hb2
  simp (config := {dsimp := false}) [yb3e c1, n2]
  intro b3 _ p1 p2 p3 p4 hb30
  have hb3 : upd (upd h b1 (.cells [.int .u32 e, vs] y33u .exact)) b2 (.cells [.int .u32 0, nilV] yr7r .exact) b3 = none := by rw [yrkk _ _ p1, yrkk _ _ p3]; exact hb30
  generalize upd (upd h b1 _) b2 _ = h2 at *
  have m1 : b1 ≠ b3 := fun x => by rw [x, hb3] at c1; cases c1
  have m2 : b2 ≠ b3 := fun x => by rw [x, hb3] at c2; cases c2
  simp (config := {dsimp := false}) [↓yh4f, ↓y8ys, ↓ya6q]
  unfold ynh0
  refine yo1k segs.length (fun i s h' => ∃ v b, s = (ptr b1 0, ptr b2 0, ptr b3 0, .int .i64 i, undef) ∧ Sub h2 h' ∧ h' b1 = some (.cells [.int .u32 e, vs] y33u .exact) ∧ h' b2 = some (.cells [.int .u32 0, nilV] yr7r .exact) ∧ h' b3 = some (.cells [.int .u32 e, v] yr7r .exact) ∧ OL sgC 4 yhas h' v (segs.take i) b ∧ (∀ c, b = some c → h2 c = none)) ?_ ?_
  · refine ⟨nilV, none, rfl, Sub.new hb3, (yrkk _ _ m1).trans c1, (yrkk _ _ m2).trans c2, yy0e _ _ _, OL.none, by simp⟩
  rintro i s h' K' hi ⟨v, b, rfl, s3, d1, d2, d3, ho, hbn⟩ hk'
  by_cases hlt : i < segs.length
  · have hv3 := hv.mono (s2.trans s3)
    have hix := fun (K : Value → Prop) (u : Dm K) => hv3.ixA (k := .i64) hlt (K := K) (u := u)
    obtain ⟨z, l, cc, hz⟩ := hsl segs[i] (List.getElem_mem hlt)
    have htk : segs.take (i + 1) = segs.take i ++ [segs[i]] := List.take_succ_eq_append_getElem hlt
    rw [htk] at hk'
    have w1 : IntKind.i64.wrap ((i : Int) + 1) = ((i + 1 : Nat) : Int) := by rw [w_i64 (by omega) (by omega)]; omega
    obtain ⟨sg, hsg⟩ : ∃ sg, segs[i] = sg := ⟨_, rfl⟩
    rw [hsg] at hix hz hk'
    obtain ⟨a, n, p, vb⟩ := sg
    simp only at hz
    subst hz
    simp only [sgC] at hix
    simp (config := {dsimp := false}) [↓y2pf, yb3e d1, hv3.ulen, hlt, hix]
    intro b5 _ hb5
    have k5 : ∀ {c o}, h' c = some o → ∀ q q', upd (upd h' b5 q) b5 q' c = some o := fun {c o} hc q q' => by
      have : c ≠ b5 := fun x => by rw [x, hb5] at hc; cases hc
      rw [yrkk _ _ this, yrkk _ _ this]; exact hc
    have k5' : ∀ {c o}, h' c = some o → ∀ q, upd h' b5 q c = some o := fun {c o} hc q => by
      have : c ≠ b5 := fun x => by rw [x, hb5] at hc; cases hc
      rw [yrkk _ _ this]; exact hc
    have s5 : Sub h2 (upd h' b5 (.cells [.int .u32 a, .int .u32 n, .int .i64 p, .slice z l cc] ym0k .exact)) := Sub.upd s3 (Sub.none s3 hb5)
    have ho5 : OL sgC 4 yhas (upd h' b5 (.cells [.int .u32 a, .int .u32 n, .int .i64 p, .slice z l cc] ym0k .exact)) v (segs.take i) b := ho.keep fun c hc => yrkk _ _ fun x => by rw [x] at hc; exact ho.there hc hb5
    have e1 := k5' d1 (.cells [.int .u32 a, .int .u32 n, .int .i64 p, .slice z l cc] ym0k .exact)
    have e2 := k5' d2 (.cells [.int .u32 a, .int .u32 n, .int .i64 p, .slice z l cc] ym0k .exact)
    have e3 := k5' d3 (.cells [.int .u32 a, .int .u32 n, .int .i64 p, .slice z l cc] ym0k .exact)
    have e5 := yy0e h' b5 (.cells [.int .u32 a, .int .u32 n, .int .i64 p, .slice z l cc] ym0k .exact)
    simp (config := {dsimp := false}) [yb3e e3, yb3e e5, y1s4]
    intro c hc2 q1 q2 hcn
    refine OL.push (bytes := 40) (m := [(a, n, p, .slice z l cc)]) ho5 (by simp [sgC]) (by omega) (by simp; omega) (by simp; omega) (fun v' h6 b' o6 c6 => ?_) rfl rfl c hc2 ((yrkk _ _ q1).trans hcn)
    have nb : ∀ {c o}, h2 c = some o → b ≠ some c := fun {c o} hc x => by rw [hbn c x] at hc; cases hc
    have f1 := c6.1 _ _ e1 (nb c1)
    have f2 := c6.1 _ _ e2 (nb c2)
    have hb3b : b ≠ some b3 := fun x => by
      obtain ⟨_, ⟨_, hx, _⟩ | ⟨c', m, hx, _, _, hx4, _⟩⟩ := ho5
      · rw [hx] at x; cases x
      · rw [hx] at x; cases x
        rw [e3] at hx4
        simp only [Option.some.injEq, AObj.cells.injEq] at hx4
        exact absurd hx4.2.1 (by decide)
    have f3 := c6.1 _ _ e3 hb3b
    have s6 := c6.sub s5 hbn
    have hcell : v'.cells = #[v'] := by
      obtain ⟨_, ⟨_, _, rfl⟩ | ⟨_, _, _, _, rfl, _⟩⟩ := o6 <;> rfl
    simp (config := {dsimp := false}) [f3, o6.sl.box, hcell, w1]
    refine hk' _ _ hlt ⟨v', b', by simp, Sub.upd s6.1 hb3, (yrkk _ _ m1).trans f1, (yrkk _ _ m2).trans f2, yy0e _ _ _, o6.keep fun c hc => yrkk _ _ fun x => ?_, fun c hc => ?_⟩
    · subst x
      rcases c6.2 _ hc with h7 | h7
      · exact hb3b h7
      · rw [e3] at h7; cases h7
    · exact s6.2 c hc
  · have hie : i = segs.length := by omega
    subst hie
    rw [List.take_length] at ho
    have hv3 := hv.mono (s2.trans s3)
    have hb := ho.sl.box
    simp (config := {dsimp := false}) [↓y2pf, ↓ygvm, yb3e d1, hv3.ulen, yzql d3, hb, d2]
    refine hk v _ (Sub.upd (s2.trans s3) hb2) ((ho.keep fun c hc => yrkk _ _ fun x => ?_).sl)
    subst x
    have := hbn _ hc
    rw [c2] at this
    cases this
theorem yrmy (hk : ∀ h', Sub h h' → K noPol h') : AM.Spec PG y1vs [noPol] h K := by
  refine yfys _ _ _ ?_
  simp (config := {dsimp := false}) [↓ymdu, ↓yyml]
  intro b1 _ hb1 b2 _ n1 n2 hb2
  have c1 : upd (upd h b1 (.cells [.bool false, nilV, nilV] y4pp .exact)) b2 (.cells [.bool false, nilV, nilV] ysrv .exact) b1 = some (.cells [.bool false, nilV, nilV] y4pp .exact) := by rw [yrkk _ _ n2, yy0e]
  simp (config := {dsimp := false}) [yb3e c1, n2]
  intro b3 _ p1 p2 p3 p4 hb3
  have s3 : Sub h (upd (upd (upd h b1 (.cells [.bool false, nilV, nilV] y4pp .exact)) b2 (.cells [.bool false, nilV, nilV] ysrv .exact)) b3 (.cells [.bool false, nilV, nilV] ysrv .exact)) := Sub.upd (Sub.upd (Sub.new hb1) hb2) hb3
  have d1 : upd (upd (upd h b1 (.cells [.bool false, nilV, nilV] y4pp .exact)) b2 (.cells [.bool false, nilV, nilV] ysrv .exact)) b3 (.cells [.bool false, nilV, nilV] ysrv .exact) b1 = some (.cells [.bool false, nilV, nilV] y4pp .exact) := by rw [yrkk _ _ p4]; exact c1
  have d2 : upd (upd (upd h b1 (.cells [.bool false, nilV, nilV] y4pp .exact)) b2 (.cells [.bool false, nilV, nilV] ysrv .exact)) b3 (.cells [.bool false, nilV, nilV] ysrv .exact) b2 = some (.cells [.bool false, nilV, nilV] ysrv .exact) := by rw [yrkk _ _ p2, yy0e]
  have d3 := yy0e (upd (upd h b1 (.cells [.bool false, nilV, nilV] y4pp .exact)) b2 (.cells [.bool false, nilV, nilV] ysrv .exact)) b3 (.cells [.bool false, nilV, nilV] ysrv .exact)
  generalize upd (upd (upd h b1 _) b2 _) b3 _ = h3 at *
  simp (config := {dsimp := false}) [↓ys94, ↓yoip, ↓ynm9]
  unfold yw92
  refine yq9z fun K' => ?_
  simp (config := {dsimp := false}) [↓ya2q, ↓y35i, ↓ys67, ↓yocg, yb3e d1]
  unfold yko8
  refine yq9z fun K' => ?_
  simp (config := {dsimp := false}) [↓y9aj, ↓yiaz, yb3e d1, yzql d3, d2]
  exact hk _ (Sub.upd s3 hb2)
theorem ybr2 (hk : ∀ h', Sub h h' → K yh6o h') : AM.Spec PG y2xr [yh6o] h K := by
  refine y9nm _ _ _ ?_
  simp (config := {dsimp := false}) [↓yoy8, ↓ymhx]
  intro b1 _ hb1 b2 _ n1 n2 hb2
  have c1 : upd (upd h b1 (.cells [nilV, nilV, nilV, nilV, nilV, nilV] ylzr .exact)) b2 (.cells [nilV, nilV, nilV, nilV, nilV, nilV] y5c0 .exact) b1 = some (.cells [nilV, nilV, nilV, nilV, nilV, nilV] ylzr .exact) := by rw [yrkk _ _ n2, yy0e]
  have c2 := yy0e (upd h b1 (.cells [nilV, nilV, nilV, nilV, nilV, nilV] ylzr .exact)) b2 (.cells [nilV, nilV, nilV, nilV, nilV, nilV] y5c0 .exact)
  have s2 : Sub h (upd (upd h b1 (.cells [nilV, nilV, nilV, nilV, nilV, nilV] ylzr .exact)) b2 (.cells [nilV, nilV, nilV, nilV, nilV, nilV] y5c0 .exact)) := Sub.upd (Sub.new hb1) hb2
  simp (config := {dsimp := false}) [yb3e c1, n2]
  intro b3 _ p1 p2 p3 p4 hb3
  have hb3' : upd (upd h b1 (.cells [nilV, nilV, nilV, nilV, nilV, nilV] ylzr .exact)) b2 (.cells [nilV, nilV, nilV, nilV, nilV, nilV] y5c0 .exact) b3 = none := by rw [yrkk _ _ p1, yrkk _ _ p3]; exact hb3
  generalize upd (upd h b1 _) b2 _ = h2 at *
  have d1 := (yrkk h2 (.cells [nilV, nilV, nilV, nilV, nilV, nilV] y5c0 .exact) p4).trans c1
  have d2 := (yrkk h2 (.cells [nilV, nilV, nilV, nilV, nilV, nilV] y5c0 .exact) p2).trans c2
  have d3 := yy0e h2 b3 (.cells [nilV, nilV, nilV, nilV, nilV, nilV] y5c0 .exact)
  have s3 : Sub h (upd h2 b3 (.cells [nilV, nilV, nilV, nilV, nilV, nilV] y5c0 .exact)) := Sub.upd s2 hb3
  generalize upd h2 b3 _ = h3 at *
  simp (config := {dsimp := false}) [↓y2ns, ↓ykvt, ↓yell]
  unfold y50u
  refine yq9z fun K' => ?_
  simp (config := {dsimp := false}) [↓ym67, ↓yvan, yb3e d1, yzql d3, d2]
  exact hk _ (Sub.upd s3 hb2)
end
end Go.Proofs.YtnckimioabkheaaGreat

set_option linter.unusedSimpArgs false
set_option linter.unusedVariables false
set_option maxRecDepth 100000
namespace Go.Proofs.YtnckimioabkheaaGreat
open AM
section
variable {h : H} {K : K1}
theorem y8oc {vs vb vd : Value} {p : Int} {bs data : List Int} (hv : Sl sgC 4 h vs [(4096, 1024, p, vb), (65536, 512, 3, vd)]) (hp : p = 5 ∨ p = 7) (hb : Sl u8V 1 h vb bs) (hd : Sl u8V 1 h vd data) (hbl : bs.length ≤ 1024) (hdl : data.length ≤ 512) (hk : K (.int .i64 0) h) :
    AM.Spec PG y3mv [.agg #[.int .u32 4096, vs]] h K := by
  refine yz7m (fun K hk => ?_) hk
  refine yepe _ _ _ ?_
  have hvb := hv.box
  obtain ⟨za, zc, rfl⟩ := Sl.formL hb
  obtain ⟨ya, yc, rfl⟩ := Sl.formL hd
  simp (config := {dsimp := false}) [↓yg76, ↓y2if, hvb]
  intro b1 _ hb1
  have hs : Sub h (upd h b1 (.cells [.int .u32 4096, vs] yr7r .exact)) := Sub.new hb1
  have hc := yy0e h b1 (.cells [.int .u32 4096, vs] yr7r .exact)
  generalize upd h b1 _ = h1 at *
  have wb : IntKind.i64.wrap (bs.length : Int) = bs.length := w_i64 (by omega) (by omega)
  have wd : IntKind.i64.wrap (data.length : Int) = data.length := w_i64 (by omega) (by omega)
  have wbd : IntKind.i64.wrap ((bs.length : Int) + data.length) = bs.length + data.length := w_i64 (by omega) (by omega)
  simp (config := {dsimp := false}) [yb3e hc, (hv.mono hs).ulen, ↓yvrz, ↓ycly, ↓ypmf]
  unfold y48c
  refine yo1k 2 (fun i s h' => s = (ptr b1 0, .int .i64 (if i = 0 then 0 else if i = 1 then bs.length else bs.length + data.length), .int .i64 (if i = 0 then 0 else if i = 1 then 1024 else 1536), .int .i64 i) ∧ Sub h h' ∧ h' b1 = some (.cells [.int .u32 4096, vs] yr7r .exact)) ⟨rfl, hs, hc⟩ ?_
  rintro i s h' K' hi ⟨rfl, hs', hc'⟩ hk'
  have hv' := hv.mono hs'
  have i0 := fun (K : Value → Prop) (u : Dm K) => hv'.ixA (k := .i64) (i := 0) (by simp) (K := K) (u := u)
  have i1 := fun (K : Value → Prop) (u : Dm K) => hv'.ixA (k := .i64) (i := 1) (by simp) (K := K) (u := u)
  simp (config := {dsimp := false}) [sgC] at i0 i1
  have q0 : ¬ (1024 : Int) < bs.length := by omega
  have q1 : ¬ (512 : Int) < data.length := by omega
  have hp1 : ¬ p < 0 := by omega
  have hp2 : ¬ 7 < p := by omega
  match i, hi with
  | 0, _ =>
    simp (config := {dsimp := false}) [↓yfec, yb3e hc', hv'.ulen, i0]
    intro b6 _ hb6
    have n6 : b1 ≠ b6 := fun e => by rw [e, hb6] at hc'; cases hc'
    simp (config := {dsimp := false}) [q0, hp1, hp2, wb]
    exact hk' (ptr b1 0, .int .i64 bs.length, .int .i64 1024, .int .i64 1) _ (by omega) ⟨by simp, Sub.newer hs' hb6, (yrkk _ _ n6).trans hc'⟩
  | 1, _ =>
    simp (config := {dsimp := false}) [↓yfec, yb3e hc', hv'.ulen, i1]
    intro b6 _ hb6
    have n6 : b1 ≠ b6 := fun e => by rw [e, hb6] at hc'; cases hc'
    simp (config := {dsimp := false}) [q1, wd, wbd]
    exact hk' (ptr b1 0, .int .i64 (bs.length + data.length), .int .i64 1536, .int .i64 2) _ (by omega) ⟨by simp, Sub.newer hs' hb6, (yrkk _ _ n6).trans hc'⟩
  | 2, _ =>
    have q2 : ¬ (65536 : Int) < (bs.length : Int) + data.length := by omega
    simp (config := {dsimp := false}) [↓yfec, ↓yggq, ↓yeqh, ↓ywqd, ↓yp4t, yb3e hc', hv'.ulen, q2]
    clear hk'
    unfold ygfp
    refine yo1k 2 (fun i s h' => s = (ptr b1 0, .bool (decide (i ≠ 0)), .int .i64 i) ∧ Sub h h' ∧ h' b1 = some (.cells [.int .u32 4096, vs] yr7r .exact)) ⟨rfl, hs', hc'⟩ ?_
    clear hs' hc' hv' i0 i1
    rintro i s h' K' hi ⟨rfl, hs', hc'⟩ hk'
    have hv' := hv.mono hs'
    have i0 := fun (K : Value → Prop) (u : Dm K) => hv'.ixA (k := .i64) (i := 0) (by simp) (K := K) (u := u)
    have i1 := fun (K : Value → Prop) (u : Dm K) => hv'.ixA (k := .i64) (i := 1) (by simp) (K := K) (u := u)
    simp (config := {dsimp := false}) [sgC] at i0 i1
    match i, hi with
    | 0, _ =>
      simp (config := {dsimp := false}) [↓yaeq, ↓y11l, ↓yaq4, ↓yq9s, yb3e hc', hv'.ulen, i0]
      intro b9 _ hb9
      have n9 : b1 ≠ b9 := fun e => by rw [e, hb9] at hc'; cases hc'
      simp (config := {dsimp := false}) [↓yp7k, ↓y09h, ↓y43f]
      have s9 := Sub.newer (q := .cells [.int .u32 4096, .int .u32 1024, .int .i64 p, .slice za bs.length zc] yhas .exact) hs' hb9
      have e9 := yy0e h' b9 (.cells [.int .u32 4096, .int .u32 1024, .int .i64 p, .slice za bs.length zc] yhas .exact)
      have e1 := (yrkk h' (.cells [.int .u32 4096, .int .u32 1024, .int .i64 p, .slice za bs.length zc] yhas .exact) n9).trans hc'
      generalize upd h' b9 _ = h9 at *
      unfold y8ev
      refine yq9z fun K2 => ?_
      have hp4 : ¬ IntKind.i64.wrap (((p % 2 ^ IntKind.i64.bits).toNat &&& 4 % 2 ^ IntKind.i64.bits : Nat) : Int) = 0 := by rcases hp with rfl | rfl <;> decide
      simp (config := {dsimp := false}) [↓yl0b]
      simp (config := {dsimp := false}) [↓yx28, ↓yd2r, yb3e e9, yb3e e1, hp4]
      exact hk' (ptr b1 0, .bool true, .int .i64 1) _ (by omega) ⟨by simp, s9, e1⟩
    | 1, _ =>
      simp (config := {dsimp := false}) [↓yaeq, ↓y11l, ↓yaq4, ↓yq9s, yb3e hc', hv'.ulen, i1]
      intro b9 _ hb9
      have n9 : b1 ≠ b9 := fun e => by rw [e, hb9] at hc'; cases hc'
      simp (config := {dsimp := false}) [↓yp7k, ↓y09h, ↓y43f]
      have s9 := Sub.newer (q := .cells [.int .u32 65536, .int .u32 512, .int .i64 3, .slice ya data.length yc] yhas .exact) hs' hb9
      have e9 := yy0e h' b9 (.cells [.int .u32 65536, .int .u32 512, .int .i64 3, .slice ya data.length yc] yhas .exact)
      have e1 := (yrkk h' (.cells [.int .u32 65536, .int .u32 512, .int .i64 3, .slice ya data.length yc] yhas .exact) n9).trans hc'
      generalize upd h' b9 _ = h9 at *
      unfold y8ev
      refine yo1k 1 (fun j s h2 => s = (ptr b1 0, .bool true, .int .i64 1, ptr b9 0, .int .i64 j) ∧ Sub h9 h2) ⟨rfl, Sub.refl _⟩ ?_
      rintro j s h2 K2 hj ⟨rfl, s2⟩ hk2
      have f1 := s2 _ _ e1
      have f9 := s2 _ _ e9
      have hv2 := hv.mono (s9.trans s2)
      have i0 := fun (K : Value → Prop) (u : Dm K) => hv2.ixA (k := .i64) (i := 0) (by simp) (K := K) (u := u)
      simp (config := {dsimp := false}) [sgC] at i0
      match j, hj with
      | 0, _ =>
        simp (config := {dsimp := false}) [↓yl0b, ↓yt29, ↓yf2o, ↓ydsc, yb3e f1, i0]
        intro b11 _ hb11
        have n11 : b9 ≠ b11 := fun e => by rw [e, hb11] at f9; cases f9
        have u1 : yy7c 1024 = 1024 := by unfold yy7c; decide
        have u2 : yy7c 512 = 512 := by unfold yy7c; decide
        simp (config := {dsimp := false}) [↓y494, ↓yns0, ↓y6b3, ↓ywfn, n11, yb3e f9, u1, u2]
        exact hk2 (ptr b1 0, .bool true, .int .i64 1, ptr b9 0, .int .i64 1) _ (by omega) ⟨by simp, Sub.newer s2 hb11⟩
      | 1, _ =>
        simp (config := {dsimp := false}) [↓yl0b]
        simp (config := {dsimp := false}) [↓yx28, ↓yd2r]
        exact hk' (ptr b1 0, .bool true, .int .i64 2) _ (by omega) ⟨by simp, s9.trans s2, f1⟩
    | 2, _ =>
      simp (config := {dsimp := false}) [↓yaeq, ↓ytui, yb3e hc', hv'.ulen]
      exact hk _ hs'
end
end Go.Proofs.YtnckimioabkheaaGreat

set_option linter.unusedVariables false
set_option maxRecDepth 100000
namespace Go.Proofs.YtnckimioabkheaaGreat
open Go.Proofs.YtnckimioabkheaaGreat.AM
@[simp] theorem yzl9 {a0 : Int} {a1 : Int} {K : Value → Prop} {u : Dm K} : ysnr PG yrli [(0, .int .u32 a0), (1, .int .u32 a1)] K u = K (.agg #[.int .u32 a0, .int .u32 a1]) := by kernel_rfl
@[simp] theorem yndy {h : H} {K : K1} {u : Dm K} : ynqb PG yoza 0 [] h K u = u_new [] yezi .exact h fun b h => K (.slice (some ⟨b, 0, none⟩) 0 0) h := by kernel_rfl
@[simp] theorem yob0 {h : H} {K : K1} {u : Dm K} : ynqb PG ywlv 0 [] h K u = u_new [] yrli .exact h fun b h => K (.slice (some ⟨b, 0, none⟩) 0 0) h := by kernel_rfl
@[simp] theorem yqey {a0_0 : Int} {a0_1 : Int} {h : H} {K : K1} {u : Dm K} : ynqb PG ywlv 1 [(0, .agg #[.int .u32 a0_0, .int .u32 a0_1])] h K u = u_new [.int .u32 a0_0, .int .u32 a0_1] yrli .exact h fun b h => K (.slice (some ⟨b, 0, none⟩) 1 1) h := by kernel_rfl
def yrnw (x0 x4 x5 : Value) (h : H) (Kn : K3) (Kr : K0) (Ke0 : K2) : Prop :=
  u_pf false 1 2 x0 h fun v14 => ywmm v14 fun v15 => u_bin PG .lss T_int x5 v15 fun v16 => u_if v16 (u_pf false 1 2 x0 h fun v22 => u_ixf false 1 0 none 2 v22 x5 h fun v26 => u_bin PG .eql ycpa v26 x4 fun v28 => u_if v28 (u_pf false 1 2 x0 h fun v32 => u_ixf false 1 1 none 2 v32 x5 h fun v36 => u_bin PG .add ycpa v36 (.int .u32 1) fun v37 => yji6 none 2 v32 x5 fun v38 => u_st 1 1 v38 v37 h fun h => Kr h) (u_bin PG .add T_int x5 (.int .i64 1) fun v18 => Kn x0 x4 v18 h)) (Ke0 x0 x4 h)
theorem yo1y (Kn : K3) (Kr : K0) (Ke0 : K2) (t : T) (h : H) (H0 : yrnw (t 0) (t 4) (t 5) h Kn Kr Ke0) : Wp PG 53 (lopC (blkC (rest 1 (seqL (rest 1 (ygjk Tryz.f188.body)))))) (mkQ (q3 Kn 0 4 5) (q0 Kr) (keAdd 0 (q2 Ke0 0 4) ke0)) t h :=
  wpEqC E5_ok H0 (by kernel_rfl)
def ydqt (x0 x4 x5 : Value) (h : H) (Kn : K2) (Kr : K0) (Ke0 : K2) : Prop :=
  sloop (S := Value × Value × Value) (fun s h K => yrnw s.1 s.2.1 s.2.2 h (fun y0 y4 y5 h => K (y0, y4, y5) h) Kr Ke0) (x0, x4, x5) h
theorem ydy1 (Kn : K2) (Kr : K0) (Ke0 : K2) (t : T) (h : H) (H0 : ydqt (t 0) (t 4) (t 5) h Kn Kr Ke0) : Wp PG 53 (blkC (rest 1 (seqL (rest 1 (ygjk Tryz.f188.body))))) (mkQ (q2 Kn 0 4) (q0 Kr) (keAdd 0 (q2 Ke0 0 4) ke0)) t h :=
  yv0a (fun t => (t 0, t 4, t 5)) (by kernel_rfl) (fun t h K H1 => yo1y (fun y0 y4 y5 h => K (y0, y4, y5) h) Kr Ke0 t h H1) H0
def y9al (x0 x4 x5 : Value) (h : H) (Kn : K2) (Kr : K0) : Prop :=
  ydqt x0 x4 x5 h Kn Kr Kn
theorem ygf4 (Kn : K2) (Kr : K0) (t : T) (h : H) (H0 : y9al (t 0) (t 4) (t 5) h Kn Kr) : Wp PG 53 (rest 1 (seqL (rest 1 (ygjk Tryz.f188.body)))) (mkQ (q2 Kn 0 4) (q0 Kr) ke0) t h :=
  y6tu 0 (by kernel_rfl) (by kernel_rfl) (ydy1 Kn Kr Kn t h H0)
def yw2b (x0 x4 : Value) (h : H) (Kn : K2) (Kr : K0) : Prop :=
  y9al x0 x4 (.int .i64 0) h Kn Kr
theorem yuqj (Kn : K2) (Kr : K0) (t : T) (h : H) (H0 : yw2b (t 0) (t 4) h Kn Kr) : Wp PG 53 (seqL (rest 1 (ygjk Tryz.f188.body))) (mkQ (q2 Kn 0 4) (q0 Kr) ke0) t h :=
  yvnp E5_ok 1 H0 (by kernel_rfl) (fun t h (H1 : y9al (t 0) (t 4) (t 5) h Kn Kr) => ygf4 Kn Kr t h H1) (by kernel_rfl)
def yq44 (x0 x4 : Value) (h : H) (Kn : K0) (Kr : K0) : Prop :=
  ynqb PG ywlv 0 [] h fun v41 h => u_pf false 1 2 x0 h fun v45 => yx4h yrli 2 8 v41 v45 h fun v46 h => ysnr PG yrli [(0, x4), (1, (.int .u32 1))] fun v48 => ynqb PG ywlv 1 [(0, v48)] h fun v49 h => yx4h yrli 2 8 v46 v49 h fun v50 h => y394 x0 fun v51 => u_st 1 2 v51 v50 h fun h => Kn h
theorem yqu0 (Kn : K0) (Kr : K0) (t : T) (h : H) (H0 : yq44 (t 0) (t 4) h Kn Kr) : Wp PG 53 (seqR (rest 1 (ygjk Tryz.f188.body))) (mkQ (q0 Kn) (q0 Kr) ke0) t h :=
  wpEqC E5_ok H0 (by kernel_rfl)
def ykm6 (x0 x4 : Value) (h : H) (Kn : K0) (Kr : K0) : Prop :=
  yw2b x0 x4 h (fun y0 y4 h => yq44 y0 y4 h Kn Kr) Kr
theorem y0dt (Kn : K0) (Kr : K0) (t : T) (h : H) (H0 : ykm6 (t 0) (t 4) h Kn Kr) : Wp PG 53 (rest 1 (ygjk Tryz.f188.body)) (mkQ (q0 Kn) (q0 Kr) ke0) t h :=
  ykv2 (by kernel_rfl) (fun t h H1 => yqu0 Kn Kr t h H1) (yuqj (fun y0 y4 h => yq44 y0 y4 h Kn Kr) Kr t h H0)
def y6fl (x0 x1 : Value) (h : H) (Kn : K0) (Kr : K0) : Prop :=
  u_bin PG .rem ycpa x1 (.int .u32 256) fun v8 => u_bin PG .sub ycpa x1 v8 fun v9 => ykm6 x0 v9 h Kn Kr
theorem yqph (Kn : K0) (Kr : K0) (t : T) (h : H) (H0 : y6fl (t 0) (t 1) h Kn Kr) : Wp PG 53 (ygjk Tryz.f188.body) (mkQ (q0 Kn) (q0 Kr) ke0) t h :=
  yvnp E5_ok 1 H0 (by kernel_rfl) (fun t h (H1 : ykm6 (t 0) (t 4) h Kn Kr) => y0dt Kn Kr t h H1) (by kernel_rfl)
def y78d (x0 x1 : Value) (h : H) (Q : K1) : Prop := y6fl x0 x1 h (fun h => bif [].all boxV then Q (.tuple #[]) h else False) (fun h => bif [].all boxV then Q (.tuple #[]) h else False)
theorem yoeu (x0 x1 : Value) (h : H) (Q : K1) (H0 : y78d x0 x1 h Q) : AM.Spec PG yrlt [x0, x1] h Q :=
  yqxt mixed (fn := Tryz.f188) Tryz.func188 (c := ygjk Tryz.f188.body) (rs := []) (N := 53) (by kernel_rfl) (by kernel_rfl) (by kernel_rfl) (by kernel_rfl) (by kernel_rfl) (Nat.le_of_ble_eq_true rfl) (yqph (fun h => bif [].all boxV then Q (.tuple #[]) h else False) (fun h => bif [].all boxV then Q (.tuple #[]) h else False) (tinit [x0, x1]) h H0) (by kernel_rfl)
def y3zw (x0 x1 x2 x7 x8 : Value) (h : H) (Kn : K5) (Kr : K1) (Ke0 : K1) : Prop :=
  u_pf false 1 1 x0 h fun v13 => ywmm v13 fun v14 => u_bin PG .lss T_int x8 v14 fun v15 => u_if v15 (u_pf false 1 1 x0 h fun v21 => u_ixf false 1 0 none 258 v21 x8 h fun v25 => u_ct yyxh [v25, x1, x2] h fun v28 h => u_if v28 (u_bin PG .add yeb5 x7 (.int .i64 1) fun v30 => u_bin PG .add T_int x8 (.int .i64 1) fun v17 => Kn x0 x1 x2 v30 v17 h) (u_bin PG .add T_int x8 (.int .i64 1) fun v17 => Kn x0 x1 x2 x7 v17 h)) (Ke0 x7 h)
theorem yaw0 (Kn : K5) (Kr : K1) (Ke0 : K1) (t : T) (h : H) (H0 : y3zw (t 0) (t 1) (t 2) (t 7) (t 8) h Kn Kr Ke0) : Wp PG 32 (lopC (blkC (rest 1 (seqL (rest 2 (ygjk Tryz.f220.body)))))) (mkQ (q5 Kn 0 1 2 7 8) (q1 Kr 6) (keAdd 0 (q1 Ke0 7) ke0)) t h :=
  wpEqC E5_ok H0 (by kernel_rfl)
def yz03 (x0 x1 x2 x7 x8 : Value) (h : H) (Kn : K1) (Kr : K1) (Ke0 : K1) : Prop :=
  sloop (S := Value × Value × Value × Value × Value) (fun s h K => y3zw s.1 s.2.1 s.2.2.1 s.2.2.2.1 s.2.2.2.2 h (fun y0 y1 y2 y7 y8 h => K (y0, y1, y2, y7, y8) h) Kr Ke0) (x0, x1, x2, x7, x8) h
theorem y1go (Kn : K1) (Kr : K1) (Ke0 : K1) (t : T) (h : H) (H0 : yz03 (t 0) (t 1) (t 2) (t 7) (t 8) h Kn Kr Ke0) : Wp PG 32 (blkC (rest 1 (seqL (rest 2 (ygjk Tryz.f220.body))))) (mkQ (q1 Kn 7) (q1 Kr 6) (keAdd 0 (q1 Ke0 7) ke0)) t h :=
  yv0a (fun t => (t 0, t 1, t 2, t 7, t 8)) (by kernel_rfl) (fun t h K H1 => yaw0 (fun y0 y1 y2 y7 y8 h => K (y0, y1, y2, y7, y8) h) Kr Ke0 t h H1) H0
def yygt (x0 x1 x2 x7 x8 : Value) (h : H) (Kn : K1) (Kr : K1) : Prop :=
  yz03 x0 x1 x2 x7 x8 h Kn Kr Kn
theorem ysmx (Kn : K1) (Kr : K1) (t : T) (h : H) (H0 : yygt (t 0) (t 1) (t 2) (t 7) (t 8) h Kn Kr) : Wp PG 32 (rest 1 (seqL (rest 2 (ygjk Tryz.f220.body)))) (mkQ (q1 Kn 7) (q1 Kr 6) ke0) t h :=
  y6tu 0 (by kernel_rfl) (by kernel_rfl) (y1go Kn Kr Kn t h H0)
def yjpk (x0 x1 x2 x7 : Value) (h : H) (Kn : K1) (Kr : K1) : Prop :=
  yygt x0 x1 x2 x7 (.int .i64 0) h Kn Kr
theorem yanw (Kn : K1) (Kr : K1) (t : T) (h : H) (H0 : yjpk (t 0) (t 1) (t 2) (t 7) h Kn Kr) : Wp PG 32 (seqL (rest 2 (ygjk Tryz.f220.body))) (mkQ (q1 Kn 7) (q1 Kr 6) ke0) t h :=
  yvnp E5_ok 1 H0 (by kernel_rfl) (fun t h (H1 : yygt (t 0) (t 1) (t 2) (t 7) (t 8) h Kn Kr) => ysmx Kn Kr t h H1) (by kernel_rfl)
def yd4u (x7 : Value) (h : H) (Kn : K1) (Kr : K1) : Prop :=
  Kr x7 h
theorem yt81 (Kn : K1) (Kr : K1) (t : T) (h : H) (H0 : yd4u (t 7) h Kn Kr) : Wp PG 32 (seqR (rest 2 (ygjk Tryz.f220.body))) (mkQ (q1 Kn 6) (q1 Kr 6) ke0) t h :=
  wpEqC E5_ok H0 (by kernel_rfl)
def ya01 (x0 x1 x2 x7 : Value) (h : H) (Kn : K1) (Kr : K1) : Prop :=
  yjpk x0 x1 x2 x7 h (fun y7 h => yd4u y7 h Kn Kr) Kr
theorem y8t4 (Kn : K1) (Kr : K1) (t : T) (h : H) (H0 : ya01 (t 0) (t 1) (t 2) (t 7) h Kn Kr) : Wp PG 32 (rest 2 (ygjk Tryz.f220.body)) (mkQ (q1 Kn 6) (q1 Kr 6) ke0) t h :=
  ykv2 (by kernel_rfl) (fun t h H1 => yt81 Kn Kr t h H1) (yanw (fun y7 h => yd4u y7 h Kn Kr) Kr t h H0)
def yukl (x0 x1 x2 : Value) (h : H) (Kn : K1) (Kr : K1) : Prop :=
  ya01 x0 x1 x2 (.int .i64 0) h Kn Kr
theorem y0o9 (Kn : K1) (Kr : K1) (t : T) (h : H) (H0 : yukl (t 0) (t 1) (t 2) h Kn Kr) : Wp PG 32 (ygjk Tryz.f220.body) (mkQ (q1 Kn 6) (q1 Kr 6) ke0) t h :=
  yvnp E5_ok 2 H0 (by kernel_rfl) (fun t h (H1 : ya01 (t 0) (t 1) (t 2) (t 7) h Kn Kr) => y8t4 Kn Kr t h H1) (by kernel_rfl)
def yrsc (x0 x1 x2 : Value) (h : H) (Q : K1) : Prop := yukl x0 x1 x2 h Q Q
theorem y5iw (x0 x1 x2 : Value) (h : H) (Q : K1) (H0 : yrsc x0 x1 x2 h Q) : AM.Spec PG y3y7 [x0, x1, x2] h Q :=
  yqxt mixed (fn := Tryz.f220) Tryz.func220 (c := ygjk Tryz.f220.body) (rs := [6]) (N := 32) (by kernel_rfl) (by kernel_rfl) (by kernel_rfl) (by kernel_rfl) (by kernel_rfl) (Nat.le_of_ble_eq_true rfl) (y0o9 Q Q (tinit [x0, x1, x2]) h H0) (by kernel_rfl)
def y4ap (x0 x6 x7 : Value) (h : H) (Kn : K3) (Kr : K2) (Ke0 : K3) : Prop :=
  u_pf false 1 1 x0 h fun v16 => ywmm v16 fun v17 => u_bin PG .lss T_int x7 v17 fun v18 => ydv6 v18 true (fun k17 => u_pf false 1 1 x0 h fun v23 => u_ixf false 1 0 none 258 v23 x7 h fun v27 => u_bin PG .lss ycpa v27 x6 fun v29 => k17 v29 h) (fun v29 h => y9rg v18 v29 (.bool false) fun v30 => u_if v30 (u_bin PG .add T_int x7 (.int .i64 1) fun v32 => Kn x0 x6 v32 h) (Ke0 x0 x6 x7 h)) h
theorem yav3 (Kn : K3) (Kr : K2) (Ke0 : K3) (t : T) (h : H) (H0 : y4ap (t 0) (t 6) (t 7) h Kn Kr Ke0) : Wp PG 53 (lopC (blkC (seqL (rest 3 (ygjk Tryz.f221.body))))) (mkQ (q3 Kn 0 6 7) (q2 Kr 4 5) (keAdd 0 (q3 Ke0 0 6 7) ke0)) t h :=
  wpEqC E5_ok H0 (by kernel_rfl)
def yc0h (x0 x6 x7 : Value) (h : H) (Kn : K3) (Kr : K2) (Ke0 : K3) : Prop :=
  sloop (S := Value × Value × Value) (fun s h K => y4ap s.1 s.2.1 s.2.2 h (fun y0 y6 y7 h => K (y0, y6, y7) h) Kr Ke0) (x0, x6, x7) h
theorem ynju (Kn : K3) (Kr : K2) (Ke0 : K3) (t : T) (h : H) (H0 : yc0h (t 0) (t 6) (t 7) h Kn Kr Ke0) : Wp PG 53 (blkC (seqL (rest 3 (ygjk Tryz.f221.body)))) (mkQ (q3 Kn 0 6 7) (q2 Kr 4 5) (keAdd 0 (q3 Ke0 0 6 7) ke0)) t h :=
  yv0a (fun t => (t 0, t 6, t 7)) (by kernel_rfl) (fun t h K H1 => yav3 (fun y0 y6 y7 h => K (y0, y6, y7) h) Kr Ke0 t h H1) H0
def ypgi (x0 x6 x7 : Value) (h : H) (Kn : K3) (Kr : K2) : Prop :=
  yc0h x0 x6 x7 h Kn Kr Kn
theorem y0le (Kn : K3) (Kr : K2) (t : T) (h : H) (H0 : ypgi (t 0) (t 6) (t 7) h Kn Kr) : Wp PG 53 (seqL (rest 3 (ygjk Tryz.f221.body))) (mkQ (q3 Kn 0 6 7) (q2 Kr 4 5) ke0) t h :=
  y6tu 0 (by kernel_rfl) (by kernel_rfl) (ynju Kn Kr Kn t h H0)
def yekl (x0 x6 x7 : Value) (h : H) (Kn : K2) (Kr : K2) : Prop :=
  u_pf false 1 1 x0 h fun v38 => ywmm v38 fun v39 => u_bin PG .lss T_int x7 v39 fun v40 => ydv6 v40 true (fun k18 => u_pf false 1 1 x0 h fun v45 => u_ixf false 1 0 none 258 v45 x7 h fun v49 => u_bin PG .eql ycpa v49 x6 fun v51 => k18 v51 h) (fun v51 h => y9rg v40 v51 (.bool false) fun v52 => Kn x7 v52 h) h
theorem yxgh (Kn : K2) (Kr : K2) (t : T) (h : H) (H0 : yekl (t 0) (t 6) (t 7) h Kn Kr) : Wp PG 53 (seqL (seqR (rest 3 (ygjk Tryz.f221.body)))) (mkQ (q2 Kn 4 5) (q2 Kr 4 5) ke0) t h :=
  ybop E5_ok [0, 1, 2, 3, 4, 5, 6, 7, 8, 9, 10, 11, 12, 13, 14, 15, 16, 17, 18, 19, 20, 21] (by kernel_rfl) (by kernel_rfl) H0 (by kernel_rfl)
def yzan (x4 x5 : Value) (h : H) (Kn : K2) (Kr : K2) : Prop :=
  Kr x4 x5 h
theorem ydux (Kn : K2) (Kr : K2) (t : T) (h : H) (H0 : yzan (t 4) (t 5) h Kn Kr) : Wp PG 53 (seqR (seqR (rest 3 (ygjk Tryz.f221.body)))) (mkQ (q2 Kn 4 5) (q2 Kr 4 5) ke0) t h :=
  wpEqC E5_ok H0 (by kernel_rfl)
def yf7k (x0 x6 x7 : Value) (h : H) (Kn : K2) (Kr : K2) : Prop :=
  yekl x0 x6 x7 h (fun y4 y5 h => yzan y4 y5 h Kn Kr) Kr
theorem y5jq (Kn : K2) (Kr : K2) (t : T) (h : H) (H0 : yf7k (t 0) (t 6) (t 7) h Kn Kr) : Wp PG 53 (seqR (rest 3 (ygjk Tryz.f221.body))) (mkQ (q2 Kn 4 5) (q2 Kr 4 5) ke0) t h :=
  ykv2 (by kernel_rfl) (fun t h H1 => ydux Kn Kr t h H1) (yxgh (fun y4 y5 h => yzan y4 y5 h Kn Kr) Kr t h H0)
def ynky (x0 x6 x7 : Value) (h : H) (Kn : K2) (Kr : K2) : Prop :=
  ypgi x0 x6 x7 h (fun y0 y6 y7 h => yf7k y0 y6 y7 h Kn Kr) Kr
theorem y67u (Kn : K2) (Kr : K2) (t : T) (h : H) (H0 : ynky (t 0) (t 6) (t 7) h Kn Kr) : Wp PG 53 (rest 3 (ygjk Tryz.f221.body)) (mkQ (q2 Kn 4 5) (q2 Kr 4 5) ke0) t h :=
  ykv2 (by kernel_rfl) (fun t h H1 => y5jq Kn Kr t h H1) (y0le (fun y0 y6 y7 h => yf7k y0 y6 y7 h Kn Kr) Kr t h H0)
def ykfg (x0 x1 : Value) (h : H) (Kn : K2) (Kr : K2) : Prop :=
  u_bin PG .rem ycpa x1 (.int .u32 256) fun v10 => u_bin PG .sub ycpa x1 v10 fun v11 => ynky x0 v11 (.int .i64 0) h Kn Kr
theorem ys4b (Kn : K2) (Kr : K2) (t : T) (h : H) (H0 : ykfg (t 0) (t 1) h Kn Kr) : Wp PG 53 (ygjk Tryz.f221.body) (mkQ (q2 Kn 4 5) (q2 Kr 4 5) ke0) t h :=
  yvnp E5_ok 3 H0 (by kernel_rfl) (fun t h (H1 : ynky (t 0) (t 6) (t 7) h Kn Kr) => y67u Kn Kr t h H1) (by kernel_rfl)
def y1e4 (x0 x1 : Value) (h : H) (Q : K1) : Prop := ykfg x0 x1 h (fun y4 y5 h => bif [y4, y5].all boxV then Q (.tuple #[y4, y5]) h else False) (fun y4 y5 h => bif [y4, y5].all boxV then Q (.tuple #[y4, y5]) h else False)
theorem y1i7 (x0 x1 : Value) (h : H) (Q : K1) (H0 : y1e4 x0 x1 h Q) : AM.Spec PG yhnf [x0, x1] h Q :=
  yqxt mixed (fn := Tryz.f221) Tryz.func221 (c := ygjk Tryz.f221.body) (rs := [4, 5]) (N := 53) (by kernel_rfl) (by kernel_rfl) (by kernel_rfl) (by kernel_rfl) (by kernel_rfl) (Nat.le_of_ble_eq_true rfl) (ys4b (fun y4 y5 h => bif [y4, y5].all boxV then Q (.tuple #[y4, y5]) h else False) (fun y4 y5 h => bif [y4, y5].all boxV then Q (.tuple #[y4, y5]) h else False) (tinit [x0, x1]) h H0) (by kernel_rfl)
def y4iv (x0 x1 x3 x9 : Value) (h : H) (Kn : K5) (Kr : K1) : Prop :=
  u_pf false 1 0 x0 h fun v36 => u_pf false 1 1 x0 h fun v40 => ywmm v40 fun v41 => u_bin PG .sub T_int v36 v41 fun v42 => u_bin PG .gtr yeb5 x9 v42 fun v43 => Kn x0 x1 x3 x9 v43 h
theorem y8dd (Kn : K5) (Kr : K1) (t : T) (h : H) (H0 : y4iv (t 0) (t 1) (t 3) (t 9) h Kn Kr) : Wp PG 86 (seqL (seqL (rest 4 (ygjk Tryz.f149.body)))) (mkQ (q5 Kn 0 1 3 9 43) (q1 Kr 8) ke0) t h :=
  ybop E5_ok [0, 1, 2, 3, 4, 5, 6, 7, 8, 9, 10, 11] (by kernel_rfl) (by kernel_rfl) H0 (by kernel_rfl)
def ynev (x0 x1 x3 x9 x43 : Value) (h : H) (Kn : K4) (Kr : K1) : Prop :=
  u_if x43 (Kr (.int .i64 6) h) (Kn x0 x1 x3 x9 h)
theorem ymb2 (Kn : K4) (Kr : K1) (t : T) (h : H) (H0 : ynev (t 0) (t 1) (t 3) (t 9) (t 43) h Kn Kr) : Wp PG 86 (seqR (seqL (rest 4 (ygjk Tryz.f149.body)))) (mkQ (q4 Kn 0 1 3 9) (q1 Kr 8) ke0) t h :=
  wpEqC E5_ok H0 (by kernel_rfl)
def ywd8 (x0 x1 x3 x9 : Value) (h : H) (Kn : K4) (Kr : K1) : Prop :=
  y4iv x0 x1 x3 x9 h (fun y0 y1 y3 y9 y43 h => ynev y0 y1 y3 y9 y43 h Kn Kr) Kr
theorem yv8m (Kn : K4) (Kr : K1) (t : T) (h : H) (H0 : ywd8 (t 0) (t 1) (t 3) (t 9) h Kn Kr) : Wp PG 86 (seqL (rest 4 (ygjk Tryz.f149.body))) (mkQ (q4 Kn 0 1 3 9) (q1 Kr 8) ke0) t h :=
  ykv2 (by kernel_rfl) (fun t h H1 => ymb2 Kn Kr t h H1) (y8dd (fun y0 y1 y3 y9 y43 h => ynev y0 y1 y3 y9 y43 h Kn Kr) Kr t h H0)
def yuie (x0 x1 x3 x9 x10 x11 x12 : Value) (h : H) (Kn : K6) (Kr : K1) (Ke1 : K5) (Ke0 : K0) : Prop :=
  y394 x0 fun v63 => y0wt 1 v63 fun v64 => ybqh false 1 v64 h fun v65 => y4a7 258 v65 none (some x12) none fun v67 => ysnr PG yezi [(0, x11), (1, x3)] fun v71 => y394 x0 fun v75 => y0wt 1 v75 fun v76 => ybqh false 1 v76 h fun v77 => y4a7 258 v77 (some x12) none none fun v79 => (ynqb PG yoza 1 [(0, v71)] h fun v72 h => True) ∧ ynqb PG yoza 0 [] h fun v61 h => (ynqb PG yoza 1 [(0, v71)] h fun v72 h => True) ∧ yx4h yezi 258 272 v61 v67 h fun v68 h => (ybqh false 1 v76 h fun w77 => w77 = v77) ∧ ynqb PG yoza 1 [(0, v71)] h fun v72 h => yx4h yezi 258 272 v68 v72 h fun v73 h => (ybqh false 1 v76 h fun w77 => w77 = v77) ∧ yx4h yezi 258 272 v73 v79 h fun v80 h => y394 x0 fun v81 => y0wt 1 v81 fun v82 => ylel 1 v82 v80 h fun h => Kn x0 x1 x3 x9 x10 x11 h
theorem yo4a (Kn : K6) (Kr : K1) (Ke1 : K5) (Ke0 : K0) (t : T) (h : H) (H0 : yuie (t 0) (t 1) (t 3) (t 9) (t 10) (t 11) (t 12) h Kn Kr Ke1 Ke0) : Wp PG 86 (seqL (rest 2 (blkC (seqL (rest 1 (lopC (blkC (rest 1 (seqL (seqR (rest 4 (ygjk Tryz.f149.body)))))))))))) (mkQ (q6 Kn 0 1 3 9 10 11) (q1 Kr 8) (keAdd 1 (q5 Ke1 0 1 3 9 10) (keAdd 0 (q0 Ke0) ke0))) t h :=
  ynwd E5_ok [(0, [], []), (2, [], []), (3, [], []), (4, [], []), (5, [], []), (6, [], []), (7, [], []), (9, [], []), (10, [], []), (11, [], []), (14, [], []), (15, [], []), (16, [], []), (17, [], []), (18, [], []), (19, [], []), (1, [], [12]), (8, [17], [12]), (12, [], []), (13, [17], []), (20, [], []), (21, [], []), (22, [], []), (23, [], [])] (by kernel_rfl) (by kernel_rfl) H0 (by kernel_rfl)
def yi78 (x0 x1 x3 x9 x10 x11 : Value) (h : H) (Kn : K5) (Kr : K1) (Ke1 : K5) (Ke0 : K0) : Prop :=
  yjdf PG yrlt [x0, x11] h fun v85 h => Kn x0 x1 x3 x9 x10 h
theorem yofw (Kn : K5) (Kr : K1) (Ke1 : K5) (Ke0 : K0) (t : T) (h : H) (H0 : yi78 (t 0) (t 1) (t 3) (t 9) (t 10) (t 11) h Kn Kr Ke1 Ke0) : Wp PG 86 (seqR (rest 2 (blkC (seqL (rest 1 (lopC (blkC (rest 1 (seqL (seqR (rest 4 (ygjk Tryz.f149.body)))))))))))) (mkQ (q5 Kn 0 1 3 9 10) (q1 Kr 8) (keAdd 1 (q5 Ke1 0 1 3 9 10) (keAdd 0 (q0 Ke0) ke0))) t h :=
  wpEqC E5_ok H0 (by kernel_rfl)
def ykw3 (x0 x1 x3 x9 x10 x11 x12 : Value) (h : H) (Kn : K5) (Kr : K1) (Ke1 : K5) (Ke0 : K0) : Prop :=
  yuie x0 x1 x3 x9 x10 x11 x12 h (fun y0 y1 y3 y9 y10 y11 h => yi78 y0 y1 y3 y9 y10 y11 h Kn Kr Ke1 Ke0) Kr Ke1 Ke0
theorem yjgm (Kn : K5) (Kr : K1) (Ke1 : K5) (Ke0 : K0) (t : T) (h : H) (H0 : ykw3 (t 0) (t 1) (t 3) (t 9) (t 10) (t 11) (t 12) h Kn Kr Ke1 Ke0) : Wp PG 86 (rest 2 (blkC (seqL (rest 1 (lopC (blkC (rest 1 (seqL (seqR (rest 4 (ygjk Tryz.f149.body))))))))))) (mkQ (q5 Kn 0 1 3 9 10) (q1 Kr 8) (keAdd 1 (q5 Ke1 0 1 3 9 10) (keAdd 0 (q0 Ke0) ke0))) t h :=
  ykv2 (by kernel_rfl) (fun t h H1 => yofw Kn Kr Ke1 Ke0 t h H1) (yo4a (fun y0 y1 y3 y9 y10 y11 h => yi78 y0 y1 y3 y9 y10 y11 h Kn Kr Ke1 Ke0) Kr Ke1 Ke0 t h H0)
def yz92 (x0 x1 x3 x9 x10 : Value) (h : H) (Kn : K5) (Kr : K1) (Ke1 : K5) (Ke0 : K0) : Prop :=
  u_bin PG .mul yeb5 (.int .i64 256) x10 fun v51 => y2x6 .u32 v51 fun v52 => u_bin PG .add ycpa x1 v52 fun v53 => yjdf PG yhnf [x0, v53] h fun v57 h => yvu8 v57 0 fun v58 => yvu8 v57 1 fun v59 => ykw3 x0 x1 x3 x9 x10 v53 v58 h Kn Kr Ke1 Ke0
theorem ym3x (Kn : K5) (Kr : K1) (Ke1 : K5) (Ke0 : K0) (t : T) (h : H) (H0 : yz92 (t 0) (t 1) (t 3) (t 9) (t 10) h Kn Kr Ke1 Ke0) : Wp PG 86 (blkC (seqL (rest 1 (lopC (blkC (rest 1 (seqL (seqR (rest 4 (ygjk Tryz.f149.body)))))))))) (mkQ (q5 Kn 0 1 3 9 10) (q1 Kr 8) (keAdd 1 (q5 Ke1 0 1 3 9 10) (keAdd 0 (q0 Ke0) ke0))) t h :=
  yvnp E5_ok 2 H0 (by kernel_rfl) (fun t h (H1 : ykw3 (t 0) (t 1) (t 3) (t 9) (t 10) (t 11) (t 12) h Kn Kr Ke1 Ke0) => yjgm Kn Kr Ke1 Ke0 t h H1) (by kernel_rfl)
def y7xv (x0 x1 x3 x9 x10 : Value) (h : H) (Kn : K5) (Kr : K1) (Ke0 : K0) : Prop :=
  yz92 x0 x1 x3 x9 x10 h Kn Kr Kn Ke0
theorem yi0s (Kn : K5) (Kr : K1) (Ke0 : K0) (t : T) (h : H) (H0 : y7xv (t 0) (t 1) (t 3) (t 9) (t 10) h Kn Kr Ke0) : Wp PG 86 (seqL (rest 1 (lopC (blkC (rest 1 (seqL (seqR (rest 4 (ygjk Tryz.f149.body))))))))) (mkQ (q5 Kn 0 1 3 9 10) (q1 Kr 8) (keAdd 0 (q0 Ke0) ke0)) t h :=
  y6tu 1 (by kernel_rfl) (by kernel_rfl) (ym3x Kn Kr Kn Ke0 t h H0)
def ysya (x0 x1 x3 x9 x10 : Value) (h : H) (Kn : K5) (Kr : K1) (Ke0 : K0) : Prop :=
  u_bin PG .add yeb5 x10 (.int .i64 1) fun v48 => Kn x0 x1 x3 x9 v48 h
theorem yfqp (Kn : K5) (Kr : K1) (Ke0 : K0) (t : T) (h : H) (H0 : ysya (t 0) (t 1) (t 3) (t 9) (t 10) h Kn Kr Ke0) : Wp PG 86 (seqR (rest 1 (lopC (blkC (rest 1 (seqL (seqR (rest 4 (ygjk Tryz.f149.body))))))))) (mkQ (q5 Kn 0 1 3 9 10) (q1 Kr 8) (keAdd 0 (q0 Ke0) ke0)) t h :=
  wpEqC E5_ok H0 (by kernel_rfl)
def yqng (x0 x1 x3 x9 x10 : Value) (h : H) (Kn : K5) (Kr : K1) (Ke0 : K0) : Prop :=
  y7xv x0 x1 x3 x9 x10 h (fun y0 y1 y3 y9 y10 h => ysya y0 y1 y3 y9 y10 h Kn Kr Ke0) Kr Ke0
theorem yol9 (Kn : K5) (Kr : K1) (Ke0 : K0) (t : T) (h : H) (H0 : yqng (t 0) (t 1) (t 3) (t 9) (t 10) h Kn Kr Ke0) : Wp PG 86 (rest 1 (lopC (blkC (rest 1 (seqL (seqR (rest 4 (ygjk Tryz.f149.body)))))))) (mkQ (q5 Kn 0 1 3 9 10) (q1 Kr 8) (keAdd 0 (q0 Ke0) ke0)) t h :=
  ykv2 (by kernel_rfl) (fun t h H1 => yfqp Kn Kr Ke0 t h H1) (yi0s (fun y0 y1 y3 y9 y10 h => ysya y0 y1 y3 y9 y10 h Kn Kr Ke0) Kr Ke0 t h H0)
def ya8w (x0 x1 x3 x9 x10 : Value) (h : H) (Kn : K5) (Kr : K1) (Ke0 : K0) : Prop :=
  u_bin PG .lss yeb5 x10 x9 fun v46 => u_if v46 (yqng x0 x1 x3 x9 x10 h Kn Kr Ke0) (Ke0 h)
theorem ytm0 (Kn : K5) (Kr : K1) (Ke0 : K0) (t : T) (h : H) (H0 : ya8w (t 0) (t 1) (t 3) (t 9) (t 10) h Kn Kr Ke0) : Wp PG 86 (lopC (blkC (rest 1 (seqL (seqR (rest 4 (ygjk Tryz.f149.body))))))) (mkQ (q5 Kn 0 1 3 9 10) (q1 Kr 8) (keAdd 0 (q0 Ke0) ke0)) t h :=
  yvnp E5_ok 1 H0 (by kernel_rfl) (fun t h (H1 : yqng (t 0) (t 1) (t 3) (t 9) (t 10) h Kn Kr Ke0) => yol9 Kn Kr Ke0 t h H1) (by kernel_rfl)
def ysf2 (x0 x1 x3 x9 x10 : Value) (h : H) (Kn : K0) (Kr : K1) (Ke0 : K0) : Prop :=
  sloop (S := Value × Value × Value × Value × Value) (fun s h K => ya8w s.1 s.2.1 s.2.2.1 s.2.2.2.1 s.2.2.2.2 h (fun y0 y1 y3 y9 y10 h => K (y0, y1, y3, y9, y10) h) Kr Ke0) (x0, x1, x3, x9, x10) h
theorem ysbt (Kn : K0) (Kr : K1) (Ke0 : K0) (t : T) (h : H) (H0 : ysf2 (t 0) (t 1) (t 3) (t 9) (t 10) h Kn Kr Ke0) : Wp PG 86 (blkC (rest 1 (seqL (seqR (rest 4 (ygjk Tryz.f149.body)))))) (mkQ (q0 Kn) (q1 Kr 8) (keAdd 0 (q0 Ke0) ke0)) t h :=
  yv0a (fun t => (t 0, t 1, t 3, t 9, t 10)) (by kernel_rfl) (fun t h K H1 => ytm0 (fun y0 y1 y3 y9 y10 h => K (y0, y1, y3, y9, y10) h) Kr Ke0 t h H1) H0
def y1a7 (x0 x1 x3 x9 x10 : Value) (h : H) (Kn : K0) (Kr : K1) : Prop :=
  ysf2 x0 x1 x3 x9 x10 h Kn Kr Kn
theorem y2gf (Kn : K0) (Kr : K1) (t : T) (h : H) (H0 : y1a7 (t 0) (t 1) (t 3) (t 9) (t 10) h Kn Kr) : Wp PG 86 (rest 1 (seqL (seqR (rest 4 (ygjk Tryz.f149.body))))) (mkQ (q0 Kn) (q1 Kr 8) ke0) t h :=
  y6tu 0 (by kernel_rfl) (by kernel_rfl) (ysbt Kn Kr Kn t h H0)
def yptq (x0 x1 x3 x9 : Value) (h : H) (Kn : K0) (Kr : K1) : Prop :=
  y1a7 x0 x1 x3 x9 (.int .i64 0) h Kn Kr
theorem y2e9 (Kn : K0) (Kr : K1) (t : T) (h : H) (H0 : yptq (t 0) (t 1) (t 3) (t 9) h Kn Kr) : Wp PG 86 (seqL (seqR (rest 4 (ygjk Tryz.f149.body)))) (mkQ (q0 Kn) (q1 Kr 8) ke0) t h :=
  yvnp E5_ok 1 H0 (by kernel_rfl) (fun t h (H1 : y1a7 (t 0) (t 1) (t 3) (t 9) (t 10) h Kn Kr) => y2gf Kn Kr t h H1) (by kernel_rfl)
def yysk (h : H) (Kn : K1) (Kr : K1) : Prop :=
  Kr (.int .i64 0) h
theorem yxb9 (Kn : K1) (Kr : K1) (t : T) (h : H) (H0 : yysk  h Kn Kr) : Wp PG 86 (seqR (seqR (rest 4 (ygjk Tryz.f149.body)))) (mkQ (q1 Kn 8) (q1 Kr 8) ke0) t h :=
  wpEqC E5_ok H0 (by kernel_rfl)
def y6vu (x0 x1 x3 x9 : Value) (h : H) (Kn : K1) (Kr : K1) : Prop :=
  yptq x0 x1 x3 x9 h (fun  h => yysk  h Kn Kr) Kr
theorem y8qd (Kn : K1) (Kr : K1) (t : T) (h : H) (H0 : y6vu (t 0) (t 1) (t 3) (t 9) h Kn Kr) : Wp PG 86 (seqR (rest 4 (ygjk Tryz.f149.body))) (mkQ (q1 Kn 8) (q1 Kr 8) ke0) t h :=
  ykv2 (by kernel_rfl) (fun t h H1 => yxb9 Kn Kr t h H1) (y2e9 (fun  h => yysk  h Kn Kr) Kr t h H0)
def yo03 (x0 x1 x3 x9 : Value) (h : H) (Kn : K1) (Kr : K1) : Prop :=
  ywd8 x0 x1 x3 x9 h (fun y0 y1 y3 y9 h => y6vu y0 y1 y3 y9 h Kn Kr) Kr
theorem ywoe (Kn : K1) (Kr : K1) (t : T) (h : H) (H0 : yo03 (t 0) (t 1) (t 3) (t 9) h Kn Kr) : Wp PG 86 (rest 4 (ygjk Tryz.f149.body)) (mkQ (q1 Kn 8) (q1 Kr 8) ke0) t h :=
  ykv2 (by kernel_rfl) (fun t h H1 => y8qd Kn Kr t h H1) (yv8m (fun y0 y1 y3 y9 h => y6vu y0 y1 y3 y9 h Kn Kr) Kr t h H0)
def yf2f (x0 x1 x2 x3 : Value) (h : H) (Kn : K1) (Kr : K1) : Prop :=
  u_ct yr9w [x1, x2] h fun v16 h => u_bin PG .lss yeb5 v16 (.int .i64 0) fun v18 => ydv6 v18 false (fun k4 => u_bin PG .lss T_int x3 (.int .i64 0) fun v21 => k4 v21 h) (fun v21 h => y9rg v18 (.bool true) v21 fun v22 => ydv6 v22 false (fun k8 => u_bin PG .gtr T_int x3 (.int .i64 7) fun v25 => k8 v25 h) (fun v25 h => y9rg v22 (.bool true) v25 fun v26 => u_if v26 (Kr (.int .i64 1) h) (yjdf PG y3y7 [x0, x1, v16] h fun v30 h => u_bin PG .gtr yeb5 v30 (.int .i64 0) fun v31 => u_if v31 (Kr (.int .i64 5) h) (yo03 x0 x1 x3 v16 h Kn Kr))) h) h
theorem y7hu (Kn : K1) (Kr : K1) (t : T) (h : H) (H0 : yf2f (t 0) (t 1) (t 2) (t 3) h Kn Kr) : Wp PG 86 (ygjk Tryz.f149.body) (mkQ (q1 Kn 8) (q1 Kr 8) ke0) t h :=
  yvnp E5_ok 4 H0 (by kernel_rfl) (fun t h (H1 : yo03 (t 0) (t 1) (t 3) (t 9) h Kn Kr) => ywoe Kn Kr t h H1) (by kernel_rfl)
def ydgw (x0 x1 x2 x3 : Value) (h : H) (Q : K1) : Prop := yf2f x0 x1 x2 x3 h Q Q
theorem yq2p (x0 x1 x2 x3 : Value) (h : H) (Q : K1) (H0 : ydgw x0 x1 x2 x3 h Q) : AM.Spec PG y0iw [x0, x1, x2, x3] h Q :=
  yqxt mixed (fn := Tryz.f149) Tryz.func149 (c := ygjk Tryz.f149.body) (rs := [8]) (N := 86) (by kernel_rfl) (by kernel_rfl) (by kernel_rfl) (by kernel_rfl) (by kernel_rfl) (Nat.le_of_ble_eq_true rfl) (y7hu Q Q (tinit [x0, x1, x2, x3]) h H0) (by kernel_rfl)
def yyf5 (x0 x1 : Value) (h : H) (Kn : K2) (Kr : K2) : Prop :=
  yjdf PG yhnf [x0, x1] h fun v11 h => yvu8 v11 0 fun v12 => yvu8 v11 1 fun v13 => u_un PG .not v13 fun v15 => u_if v15 (Kr (.int .i64 0) (.bool false) h) (u_pf false 1 1 x0 h fun v19 => u_ixf false 1 1 none 258 v19 v12 h fun v23 => Kr v23 (.bool true) h)
theorem ysrd (Kn : K2) (Kr : K2) (t : T) (h : H) (H0 : yyf5 (t 0) (t 1) h Kn Kr) : Wp PG 24 (ygjk Tryz.f280.body) (mkQ (q2 Kn 4 5) (q2 Kr 4 5) ke0) t h :=
  wpEqC E5_ok H0 (by kernel_rfl)
def ygos (x0 x1 : Value) (h : H) (Q : K1) : Prop := yyf5 x0 x1 h (fun y4 y5 h => bif [y4, y5].all boxV then Q (.tuple #[y4, y5]) h else False) (fun y4 y5 h => bif [y4, y5].all boxV then Q (.tuple #[y4, y5]) h else False)
theorem ywrr (x0 x1 : Value) (h : H) (Q : K1) (H0 : ygos x0 x1 h Q) : AM.Spec PG ycsm [x0, x1] h Q :=
  yqxt mixed (fn := Tryz.f280) Tryz.func280 (c := ygjk Tryz.f280.body) (rs := [4, 5]) (N := 24) (by kernel_rfl) (by kernel_rfl) (by kernel_rfl) (by kernel_rfl) (by kernel_rfl) (Nat.le_of_ble_eq_true rfl) (ysrd (fun y4 y5 h => bif [y4, y5].all boxV then Q (.tuple #[y4, y5]) h else False) (fun y4 y5 h => bif [y4, y5].all boxV then Q (.tuple #[y4, y5]) h else False) (tinit [x0, x1]) h H0) (by kernel_rfl)
def ygex (x0 x1 x2 x3 x9 : Value) (h : H) (Kn : K5) (Kr : K1) (Ke0 : K0) : Prop :=
  y2x6 .i64 x1 fun v26 => u_bin PG .add yeb5 v26 x2 fun v28 => u_bin PG .lss yeb5 x9 v28 fun v29 => u_if v29 (y2x6 .u32 x9 fun v35 => yjdf PG ycsm [x0, v35] h fun v36 h => yvu8 v36 0 fun v37 => yvu8 v36 1 fun v38 => u_un PG .not v38 fun v40 => ydv6 v40 false (fun k7 => u_bin PG .and T_int v37 x3 fun v44 => u_bin PG .neq T_int v44 x3 fun v46 => k7 v46 h) (fun v46 h => y9rg v40 (.bool true) v46 fun v47 => u_if v47 (Kr (.bool false) h) (u_bin PG .add yeb5 x9 (.int .i64 256) fun v31 => Kn x0 x1 x2 x3 v31 h)) h) (Ke0 h)
theorem yd9y (Kn : K5) (Kr : K1) (Ke0 : K0) (t : T) (h : H) (H0 : ygex (t 0) (t 1) (t 2) (t 3) (t 9) h Kn Kr Ke0) : Wp PG 48 (lopC (blkC (rest 1 (seqL (rest 3 (ygjk Tryz.f222.body)))))) (mkQ (q5 Kn 0 1 2 3 9) (q1 Kr 8) (keAdd 0 (q0 Ke0) ke0)) t h :=
  wpEqC E5_ok H0 (by kernel_rfl)
def yhuv (x0 x1 x2 x3 x9 : Value) (h : H) (Kn : K0) (Kr : K1) (Ke0 : K0) : Prop :=
  sloop (S := Value × Value × Value × Value × Value) (fun s h K => ygex s.1 s.2.1 s.2.2.1 s.2.2.2.1 s.2.2.2.2 h (fun y0 y1 y2 y3 y9 h => K (y0, y1, y2, y3, y9) h) Kr Ke0) (x0, x1, x2, x3, x9) h
theorem yk8m (Kn : K0) (Kr : K1) (Ke0 : K0) (t : T) (h : H) (H0 : yhuv (t 0) (t 1) (t 2) (t 3) (t 9) h Kn Kr Ke0) : Wp PG 48 (blkC (rest 1 (seqL (rest 3 (ygjk Tryz.f222.body))))) (mkQ (q0 Kn) (q1 Kr 8) (keAdd 0 (q0 Ke0) ke0)) t h :=
  yv0a (fun t => (t 0, t 1, t 2, t 3, t 9)) (by kernel_rfl) (fun t h K H1 => yd9y (fun y0 y1 y2 y3 y9 h => K (y0, y1, y2, y3, y9) h) Kr Ke0 t h H1) H0
def y8dj (x0 x1 x2 x3 x9 : Value) (h : H) (Kn : K0) (Kr : K1) : Prop :=
  yhuv x0 x1 x2 x3 x9 h Kn Kr Kn
theorem yb19 (Kn : K0) (Kr : K1) (t : T) (h : H) (H0 : y8dj (t 0) (t 1) (t 2) (t 3) (t 9) h Kn Kr) : Wp PG 48 (rest 1 (seqL (rest 3 (ygjk Tryz.f222.body)))) (mkQ (q0 Kn) (q1 Kr 8) ke0) t h :=
  y6tu 0 (by kernel_rfl) (by kernel_rfl) (yk8m Kn Kr Kn t h H0)
def y954 (x0 x1 x2 x3 : Value) (h : H) (Kn : K0) (Kr : K1) : Prop :=
  u_bin PG .rem ycpa x1 (.int .u32 256) fun v21 => u_bin PG .sub ycpa x1 v21 fun v22 => y2x6 .i64 v22 fun v23 => y8dj x0 x1 x2 x3 v23 h Kn Kr
theorem yq0o (Kn : K0) (Kr : K1) (t : T) (h : H) (H0 : y954 (t 0) (t 1) (t 2) (t 3) h Kn Kr) : Wp PG 48 (seqL (rest 3 (ygjk Tryz.f222.body))) (mkQ (q0 Kn) (q1 Kr 8) ke0) t h :=
  yvnp E5_ok 1 H0 (by kernel_rfl) (fun t h (H1 : y8dj (t 0) (t 1) (t 2) (t 3) (t 9) h Kn Kr) => yb19 Kn Kr t h H1) (by kernel_rfl)
def y41e (h : H) (Kn : K1) (Kr : K1) : Prop :=
  Kr (.bool true) h
theorem y217 (Kn : K1) (Kr : K1) (t : T) (h : H) (H0 : y41e  h Kn Kr) : Wp PG 48 (seqR (rest 3 (ygjk Tryz.f222.body))) (mkQ (q1 Kn 8) (q1 Kr 8) ke0) t h :=
  wpEqC E5_ok H0 (by kernel_rfl)
def ye8e (x0 x1 x2 x3 : Value) (h : H) (Kn : K1) (Kr : K1) : Prop :=
  y954 x0 x1 x2 x3 h (fun  h => y41e  h Kn Kr) Kr
theorem yqd6 (Kn : K1) (Kr : K1) (t : T) (h : H) (H0 : ye8e (t 0) (t 1) (t 2) (t 3) h Kn Kr) : Wp PG 48 (rest 3 (ygjk Tryz.f222.body)) (mkQ (q1 Kn 8) (q1 Kr 8) ke0) t h :=
  ykv2 (by kernel_rfl) (fun t h H1 => y217 Kn Kr t h H1) (yq0o (fun  h => y41e  h Kn Kr) Kr t h H0)
def y499 (x0 x1 x2 x3 : Value) (h : H) (Kn : K1) (Kr : K1) : Prop :=
  u_bin PG .leq T_int x2 (.int .i64 0) fun v13 => u_if v13 (Kr (.bool true) h) (y2x6 .i64 x1 fun v15 => u_bin PG .add yeb5 v15 x2 fun v17 => u_bin PG .gtr yeb5 v17 (.int .i64 4294967296) fun v18 => u_if v18 (Kr (.bool false) h) (ye8e x0 x1 x2 x3 h Kn Kr))
theorem y7hj (Kn : K1) (Kr : K1) (t : T) (h : H) (H0 : y499 (t 0) (t 1) (t 2) (t 3) h Kn Kr) : Wp PG 48 (ygjk Tryz.f222.body) (mkQ (q1 Kn 8) (q1 Kr 8) ke0) t h :=
  yvnp E5_ok 3 H0 (by kernel_rfl) (fun t h (H1 : ye8e (t 0) (t 1) (t 2) (t 3) h Kn Kr) => yqd6 Kn Kr t h H1) (by kernel_rfl)
def ytnd (x0 x1 x2 x3 : Value) (h : H) (Q : K1) : Prop := y499 x0 x1 x2 x3 h Q Q
theorem ylw4 (x0 x1 x2 x3 : Value) (h : H) (Q : K1) (H0 : ytnd x0 x1 x2 x3 h Q) : AM.Spec PG yy8p [x0, x1, x2, x3] h Q :=
  yqxt mixed (fn := Tryz.f222) Tryz.func222 (c := ygjk Tryz.f222.body) (rs := [8]) (N := 48) (by kernel_rfl) (by kernel_rfl) (by kernel_rfl) (by kernel_rfl) (by kernel_rfl) (Nat.le_of_ble_eq_true rfl) (y7hj Q Q (tinit [x0, x1, x2, x3]) h H0) (by kernel_rfl)
def y9lj (x0 x1 x2 x6 x7 x8 : Value) (h : H) (Kn : K5) (Kr : K0) (Ke1 : K4) (Ke0 : K0) : Prop :=
  u_pf false 1 1 x0 h fun v29 => u_bin PG .rem ycpa x7 (.int .u32 256) fun v32 => u_ix false 1 none x2 x6 h fun v36 => yji6 none 258 v29 x8 fun v37 => y0wt 2 v37 fun v38 => yji6 (some 256) 1 v38 v32 fun v39 => ylel 1 v39 v36 h fun h => Kn x0 x1 x2 x6 x7 h
theorem ydf2 (Kn : K5) (Kr : K0) (Ke1 : K4) (Ke0 : K0) (t : T) (h : H) (H0 : y9lj (t 0) (t 1) (t 2) (t 6) (t 7) (t 8) h Kn Kr Ke1 Ke0) : Wp PG 50 (seqL (rest 2 (blkC (seqL (rest 1 (lopC (blkC (rest 1 (ygjk Tryz.f223.body))))))))) (mkQ (q5 Kn 0 1 2 6 7) (q0 Kr) (keAdd 1 (q4 Ke1 0 1 2 6) (keAdd 0 (q0 Ke0) ke0))) t h :=
  ybop E5_ok [0, 1, 2, 3, 4, 5, 6, 7, 8, 9, 10, 11, 12, 13, 14] (by kernel_rfl) (by kernel_rfl) H0 (by kernel_rfl)
def y5i8 (x0 x1 x2 x6 x7 : Value) (h : H) (Kn : K4) (Kr : K0) (Ke1 : K4) (Ke0 : K0) : Prop :=
  u_bin PG .eql T_int x6 (.int .i64 0) fun v41 => ydv6 v41 false (fun k5 => u_bin PG .rem ycpa x7 (.int .u32 256) fun v44 => u_bin PG .eql ycpa v44 (.int .u32 0) fun v45 => k5 v45 h) (fun v45 h => y9rg v41 (.bool true) v45 fun v46 => u_if v46 (yjdf PG yrlt [x0, x7] h fun v49 h => Kn x0 x1 x2 x6 h) (Kn x0 x1 x2 x6 h)) h
theorem y7rf (Kn : K4) (Kr : K0) (Ke1 : K4) (Ke0 : K0) (t : T) (h : H) (H0 : y5i8 (t 0) (t 1) (t 2) (t 6) (t 7) h Kn Kr Ke1 Ke0) : Wp PG 50 (seqR (rest 2 (blkC (seqL (rest 1 (lopC (blkC (rest 1 (ygjk Tryz.f223.body))))))))) (mkQ (q4 Kn 0 1 2 6) (q0 Kr) (keAdd 1 (q4 Ke1 0 1 2 6) (keAdd 0 (q0 Ke0) ke0))) t h :=
  wpEqC E5_ok H0 (by kernel_rfl)
def yaek (x0 x1 x2 x6 x7 x8 : Value) (h : H) (Kn : K4) (Kr : K0) (Ke1 : K4) (Ke0 : K0) : Prop :=
  y9lj x0 x1 x2 x6 x7 x8 h (fun y0 y1 y2 y6 y7 h => y5i8 y0 y1 y2 y6 y7 h Kn Kr Ke1 Ke0) Kr Ke1 Ke0
theorem yixt (Kn : K4) (Kr : K0) (Ke1 : K4) (Ke0 : K0) (t : T) (h : H) (H0 : yaek (t 0) (t 1) (t 2) (t 6) (t 7) (t 8) h Kn Kr Ke1 Ke0) : Wp PG 50 (rest 2 (blkC (seqL (rest 1 (lopC (blkC (rest 1 (ygjk Tryz.f223.body)))))))) (mkQ (q4 Kn 0 1 2 6) (q0 Kr) (keAdd 1 (q4 Ke1 0 1 2 6) (keAdd 0 (q0 Ke0) ke0))) t h :=
  ykv2 (by kernel_rfl) (fun t h H1 => y7rf Kn Kr Ke1 Ke0 t h H1) (ydf2 (fun y0 y1 y2 y6 y7 h => y5i8 y0 y1 y2 y6 y7 h Kn Kr Ke1 Ke0) Kr Ke1 Ke0 t h H0)
def ybc9 (x0 x1 x2 x6 : Value) (h : H) (Kn : K4) (Kr : K0) (Ke1 : K4) (Ke0 : K0) : Prop :=
  y2x6 .u32 x6 fun v18 => u_bin PG .add ycpa x1 v18 fun v19 => yjdf PG yhnf [x0, v19] h fun v23 h => yvu8 v23 0 fun v24 => yvu8 v23 1 fun v25 => yaek x0 x1 x2 x6 v19 v24 h Kn Kr Ke1 Ke0
theorem yn2y (Kn : K4) (Kr : K0) (Ke1 : K4) (Ke0 : K0) (t : T) (h : H) (H0 : ybc9 (t 0) (t 1) (t 2) (t 6) h Kn Kr Ke1 Ke0) : Wp PG 50 (blkC (seqL (rest 1 (lopC (blkC (rest 1 (ygjk Tryz.f223.body))))))) (mkQ (q4 Kn 0 1 2 6) (q0 Kr) (keAdd 1 (q4 Ke1 0 1 2 6) (keAdd 0 (q0 Ke0) ke0))) t h :=
  yvnp E5_ok 2 H0 (by kernel_rfl) (fun t h (H1 : yaek (t 0) (t 1) (t 2) (t 6) (t 7) (t 8) h Kn Kr Ke1 Ke0) => yixt Kn Kr Ke1 Ke0 t h H1) (by kernel_rfl)
def ydvt (x0 x1 x2 x6 : Value) (h : H) (Kn : K4) (Kr : K0) (Ke0 : K0) : Prop :=
  ybc9 x0 x1 x2 x6 h Kn Kr Kn Ke0
theorem yiy4 (Kn : K4) (Kr : K0) (Ke0 : K0) (t : T) (h : H) (H0 : ydvt (t 0) (t 1) (t 2) (t 6) h Kn Kr Ke0) : Wp PG 50 (seqL (rest 1 (lopC (blkC (rest 1 (ygjk Tryz.f223.body)))))) (mkQ (q4 Kn 0 1 2 6) (q0 Kr) (keAdd 0 (q0 Ke0) ke0)) t h :=
  y6tu 1 (by kernel_rfl) (by kernel_rfl) (yn2y Kn Kr Kn Ke0 t h H0)
def yyzr (x0 x1 x2 x6 : Value) (h : H) (Kn : K4) (Kr : K0) (Ke0 : K0) : Prop :=
  u_bin PG .add T_int x6 (.int .i64 1) fun v15 => Kn x0 x1 x2 v15 h
theorem yjlh (Kn : K4) (Kr : K0) (Ke0 : K0) (t : T) (h : H) (H0 : yyzr (t 0) (t 1) (t 2) (t 6) h Kn Kr Ke0) : Wp PG 50 (seqR (rest 1 (lopC (blkC (rest 1 (ygjk Tryz.f223.body)))))) (mkQ (q4 Kn 0 1 2 6) (q0 Kr) (keAdd 0 (q0 Ke0) ke0)) t h :=
  wpEqC E5_ok H0 (by kernel_rfl)
def ycl7 (x0 x1 x2 x6 : Value) (h : H) (Kn : K4) (Kr : K0) (Ke0 : K0) : Prop :=
  ydvt x0 x1 x2 x6 h (fun y0 y1 y2 y6 h => yyzr y0 y1 y2 y6 h Kn Kr Ke0) Kr Ke0
theorem yaf7 (Kn : K4) (Kr : K0) (Ke0 : K0) (t : T) (h : H) (H0 : ycl7 (t 0) (t 1) (t 2) (t 6) h Kn Kr Ke0) : Wp PG 50 (rest 1 (lopC (blkC (rest 1 (ygjk Tryz.f223.body))))) (mkQ (q4 Kn 0 1 2 6) (q0 Kr) (keAdd 0 (q0 Ke0) ke0)) t h :=
  ykv2 (by kernel_rfl) (fun t h H1 => yjlh Kn Kr Ke0 t h H1) (yiy4 (fun y0 y1 y2 y6 h => yyzr y0 y1 y2 y6 h Kn Kr Ke0) Kr Ke0 t h H0)
def ywx8 (x0 x1 x2 x6 : Value) (h : H) (Kn : K4) (Kr : K0) (Ke0 : K0) : Prop :=
  ywmm x2 fun v12 => u_bin PG .lss T_int x6 v12 fun v13 => u_if v13 (ycl7 x0 x1 x2 x6 h Kn Kr Ke0) (Ke0 h)
theorem yqks (Kn : K4) (Kr : K0) (Ke0 : K0) (t : T) (h : H) (H0 : ywx8 (t 0) (t 1) (t 2) (t 6) h Kn Kr Ke0) : Wp PG 50 (lopC (blkC (rest 1 (ygjk Tryz.f223.body)))) (mkQ (q4 Kn 0 1 2 6) (q0 Kr) (keAdd 0 (q0 Ke0) ke0)) t h :=
  yvnp E5_ok 1 H0 (by kernel_rfl) (fun t h (H1 : ycl7 (t 0) (t 1) (t 2) (t 6) h Kn Kr Ke0) => yaf7 Kn Kr Ke0 t h H1) (by kernel_rfl)
def yibv (x0 x1 x2 x6 : Value) (h : H) (Kn : K0) (Kr : K0) (Ke0 : K0) : Prop :=
  sloop (S := Value × Value × Value × Value) (fun s h K => ywx8 s.1 s.2.1 s.2.2.1 s.2.2.2 h (fun y0 y1 y2 y6 h => K (y0, y1, y2, y6) h) Kr Ke0) (x0, x1, x2, x6) h
theorem yehy (Kn : K0) (Kr : K0) (Ke0 : K0) (t : T) (h : H) (H0 : yibv (t 0) (t 1) (t 2) (t 6) h Kn Kr Ke0) : Wp PG 50 (blkC (rest 1 (ygjk Tryz.f223.body))) (mkQ (q0 Kn) (q0 Kr) (keAdd 0 (q0 Ke0) ke0)) t h :=
  yv0a (fun t => (t 0, t 1, t 2, t 6)) (by kernel_rfl) (fun t h K H1 => yqks (fun y0 y1 y2 y6 h => K (y0, y1, y2, y6) h) Kr Ke0 t h H1) H0
def yckn (x0 x1 x2 x6 : Value) (h : H) (Kn : K0) (Kr : K0) : Prop :=
  yibv x0 x1 x2 x6 h Kn Kr Kn
theorem y76d (Kn : K0) (Kr : K0) (t : T) (h : H) (H0 : yckn (t 0) (t 1) (t 2) (t 6) h Kn Kr) : Wp PG 50 (rest 1 (ygjk Tryz.f223.body)) (mkQ (q0 Kn) (q0 Kr) ke0) t h :=
  y6tu 0 (by kernel_rfl) (by kernel_rfl) (yehy Kn Kr Kn t h H0)
def ydvr (x0 x1 x2 : Value) (h : H) (Kn : K0) (Kr : K0) : Prop :=
  yckn x0 x1 x2 (.int .i64 0) h Kn Kr
theorem yy8n (Kn : K0) (Kr : K0) (t : T) (h : H) (H0 : ydvr (t 0) (t 1) (t 2) h Kn Kr) : Wp PG 50 (ygjk Tryz.f223.body) (mkQ (q0 Kn) (q0 Kr) ke0) t h :=
  yvnp E5_ok 1 H0 (by kernel_rfl) (fun t h (H1 : yckn (t 0) (t 1) (t 2) (t 6) h Kn Kr) => y76d Kn Kr t h H1) (by kernel_rfl)
def y0ld (x0 x1 x2 : Value) (h : H) (Q : K1) : Prop := ydvr x0 x1 x2 h (fun h => bif [].all boxV then Q (.tuple #[]) h else False) (fun h => bif [].all boxV then Q (.tuple #[]) h else False)
theorem y9pf (x0 x1 x2 : Value) (h : H) (Q : K1) (H0 : y0ld x0 x1 x2 h Q) : AM.Spec PG y4jv [x0, x1, x2] h Q :=
  yqxt mixed (fn := Tryz.f223) Tryz.func223 (c := ygjk Tryz.f223.body) (rs := []) (N := 50) (by kernel_rfl) (by kernel_rfl) (by kernel_rfl) (by kernel_rfl) (by kernel_rfl) (Nat.le_of_ble_eq_true rfl) (yy8n (fun h => bif [].all boxV then Q (.tuple #[]) h else False) (fun h => bif [].all boxV then Q (.tuple #[]) h else False) (tinit [x0, x1, x2]) h H0) (by kernel_rfl)
def y5rf (x0 x1 x2 : Value) (h : H) (Kn : K1) (Kr : K1) : Prop :=
  ywmm x2 fun v8 => u_bin PG .gtr T_int v8 (.int .i64 65536) fun v9 => u_if v9 (Kr (.int .i64 1) h) (ywmm x2 fun v13 => yjdf PG yy8p [x0, x1, v13, (.int .i64 0)] h fun v14 h => u_un PG .not v14 fun v15 => u_if v15 (Kr (.int .i64 8) h) (yjdf PG y4jv [x0, x1, x2] h fun v19 h => Kr (.int .i64 0) h))
theorem ymza (Kn : K1) (Kr : K1) (t : T) (h : H) (H0 : y5rf (t 0) (t 1) (t 2) h Kn Kr) : Wp PG 20 (ygjk Tryz.f150.body) (mkQ (q1 Kn 6) (q1 Kr 6) ke0) t h :=
  wpEqC E5_ok H0 (by kernel_rfl)
def ybv8 (x0 x1 x2 : Value) (h : H) (Q : K1) : Prop := y5rf x0 x1 x2 h Q Q
theorem y2cj (x0 x1 x2 : Value) (h : H) (Q : K1) (H0 : ybv8 x0 x1 x2 h Q) : AM.Spec PG y3o4 [x0, x1, x2] h Q :=
  yqxt mixed (fn := Tryz.f150) Tryz.func150 (c := ygjk Tryz.f150.body) (rs := [6]) (N := 20) (by kernel_rfl) (by kernel_rfl) (by kernel_rfl) (by kernel_rfl) (by kernel_rfl) (Nat.le_of_ble_eq_true rfl) (ymza Q Q (tinit [x0, x1, x2]) h H0) (by kernel_rfl)
end Go.Proofs.YtnckimioabkheaaGreat

set_option linter.unusedSimpArgs false
set_option linter.unusedVariables false
set_option maxRecDepth 100000
namespace Go.Proofs.YtnckimioabkheaaGreat
open AM
section
variable {β : Type}
def atN : List (Int × β) → Int → Nat
  | [], _ => 0
  | e :: r, b => if e.1 < b then atN r b + 1 else 0
def Srt (l : List (Int × β)) : Prop := l.Pairwise fun a b => a.1 < b.1
theorem ypas : ∀ (l : List (Int × β)) (b : Int), atN l b ≤ l.length
  | [], _ => Nat.le_refl _
  | e :: r, b => by
    have := ypas r b
    simp only [atN, List.length_cons]
    split <;> omega
theorem y5ap : ∀ {l : List (Int × β)} {b : Int} {i : Nat} (hi : i < atN l b), (l[i]'(Nat.lt_of_lt_of_le hi (ypas l b))).1 < b
  | [], _, i, hi => by simp [atN] at hi
  | e :: r, b, i, hi => by
    by_cases hc : e.1 < b
    · cases i with
      | zero => simpa using hc
      | succ i =>
        have h2 : i < atN r b := by simp only [atN, if_pos hc] at hi; omega
        simpa using y5ap h2
    · simp [atN, hc] at hi
theorem yjnv : ∀ {l : List (Int × β)} {b : Int} (hi : atN l b < l.length), ¬ (l[atN l b]).1 < b
  | [], _, hi => by simp at hi
  | e :: r, b, hi => by
    by_cases hc : e.1 < b
    · have h2 : atN r b < r.length := by simp only [atN, if_pos hc, List.length_cons] at hi; omega
      have := yjnv h2
      simp only [atN, if_pos hc]
      simpa using this
    · simp only [atN, if_neg hc]
      simpa using hc
def atB (l : List (Int × β)) (b : Int) : Bool := match l[atN l b]? with | some e => decide (e.1 = b) | none => false
theorem y64n : ∀ {l : List (Int × β)} {b : Int}, Srt l → fnd b l = if atB l b then (l[atN l b]?).map (·.2) else none
  | [], _, _ => rfl
  | e :: r, b, hs => by
    have hs' := List.pairwise_cons.1 hs
    by_cases hc : e.1 < b
    · have hne : ¬ b = e.1 := by omega
      simp only [fnd, if_neg hne, atB, atN, if_pos hc, List.getElem?_cons_succ]
      exact y64n hs'.2
    · simp only [fnd, atB, atN, if_neg hc, List.getElem?_cons_zero, Option.map_some]
      by_cases he : b = e.1
      · simp [he]
      · simp only [if_neg he, Ne.symm he, decide_false]
        simp
        exact yqwy fun x hx => by have := hs'.1 x hx; omega
theorem yj0o {l : List (Int × β)} {b : Int} (hs : Srt l) : atB l b = true ↔ ∃ q, fnd b l = some q := by
  rw [y64n hs]
  cases hb : atB l b with
  | false => simp
  | true =>
    simp only [if_true, true_iff]
    unfold atB at hb
    cases h : l[atN l b]? with
    | none => rw [h] at hb; cases hb
    | some e => exact ⟨e.2, rfl⟩
theorem yiee {l : List (Int × β)} {b : Int} (hb : atB l b = true) : ∃ h : atN l b < l.length, (l[atN l b]).1 = b := by
  unfold atB at hb
  cases h : l[atN l b]? with
  | none => rw [h] at hb; cases hb
  | some e =>
    rw [h] at hb
    obtain ⟨h1, h2⟩ := List.getElem?_eq_some_iff.1 h
    exact ⟨h1, by rw [h2]; simpa using hb⟩
def insP (l : List (Int × β)) (p : Int) (x : β) : List (Int × β) := l.take (atN l p) ++ [(p, x)] ++ l.drop (atN l p)
theorem y9kz {e : Int × β} {r : List (Int × β)} {p : Int} {x : β} : insP (e :: r) p x = if e.1 < p then e :: insP r p x else (p, x) :: e :: r := by
  unfold insP
  by_cases hc : e.1 < p
  · simp [atN, hc]
  · simp [atN, hc]
theorem yqs0 {p : Int} {x : β} {y : Int × β} : ∀ {l : List (Int × β)}, y ∈ insP l p x ↔ y = (p, x) ∨ y ∈ l
  | [] => by simp [insP, atN]
  | e :: r => by
    rw [y9kz]
    split
    · simp only [List.mem_cons, yqs0 (l := r)]
      constructor
      · rintro (h | h | h) <;> simp [h]
      · rintro (h | h | h) <;> simp [h]
    · simp
theorem y22m {p : Int} {x : β} : ∀ {l : List (Int × β)}, Srt l → (∀ e ∈ l, e.1 ≠ p) → Srt (insP l p x)
  | [], _, _ => by simp [insP, atN, Srt]
  | e :: r, hs, hp => by
    have hs' := List.pairwise_cons.1 hs
    rw [y9kz]
    split
    · rename_i hc
      refine List.pairwise_cons.2 ⟨fun y hy => ?_, y22m hs'.2 fun z hz => hp z (by simp [hz])⟩
      rcases yqs0.1 hy with rfl | hy
      · exact hc
      · exact hs'.1 y hy
    · rename_i hc
      have h1 := hp e (by simp)
      refine List.pairwise_cons.2 ⟨fun y hy => ?_, hs⟩
      rcases List.mem_cons.1 hy with rfl | hy
      · show p < y.1; omega
      · have := hs'.1 y hy; show p < y.1; omega
theorem ywfw {p : Int} {x : β} : ∀ {l : List (Int × β)}, (insP l p x).Perm (l ++ [(p, x)])
  | [] => by simp [insP, atN]
  | e :: r => by
    rw [y9kz]
    split
    · exact (ywfw (l := r)).cons e
    · exact (List.perm_append_singleton (p, x) (e :: r)).symm
theorem yxna {b : Int} {l m : List (Int × β)} (h : l.Perm m) (hn : (l.map (·.1)).Nodup) : fnd b l = fnd b m := by
  have hm : (m.map (·.1)).Nodup := (h.map _).nodup_iff.1 hn
  cases hq : fnd b m with
  | none =>
    refine yqwy fun e he hb => ?_
    have h1 := y0ms hm (h.mem_iff.1 he)
    rw [hb, hq] at h1
    cases h1
  | some q => exact y0ms hn (h.mem_iff.2 (y5ut hq))
theorem Srt.nodup {l : List (Int × β)} (h : Srt l) : (l.map (·.1)).Nodup := by
  unfold List.Nodup
  rw [List.pairwise_map]
  exact h.imp fun h => by omega
end
structure Same (μ ρ : MS) : Prop where
  budget : μ.budget = ρ.budget
  pages : ρ.pages.Perm μ.pages
  gens : μ.gens = ρ.gens
  srt : Srt ρ.pages
theorem Same.fnd {μ ρ : MS} (h : Same μ ρ) {b : Int} : fnd b ρ.pages = fnd b μ.pages := yxna h.pages h.srt.nodup
end Go.Proofs.YtnckimioabkheaaGreat

set_option linter.unusedSimpArgs false
set_option linter.unusedVariables false
set_option maxRecDepth 100000
namespace Go.Proofs.YtnckimioabkheaaGreat
open AM
theorem y0xk : ∀ {segs : List (Sg × List Int)} {μ : MS}, MSok μ → MSz μ → (∀ s ∈ segs, (0 ≤ s.1.2.1 ∧ s.1.2.1 < 4294967296) ∧ ∀ x ∈ s.2, 0 ≤ x ∧ x < 256) → MSok (layF μ segs).2 ∧ MSz (layF μ segs).2
  | [], μ, hw, hz, _ => ⟨hw, hz⟩
  | s :: r, μ, hw, hz, hs => by
    obtain ⟨h1, h2⟩ := hs s (by simp)
    rw [layF]
    split
    · exact ⟨hw, hz⟩
    split
    · exact ⟨hw.map, hz.map h1.1 h1.2⟩
    · exact y0xk (hw.map.wr h2) (hz.map h1.1 h1.2).wr fun x hx => hs x (by simp [hx])
theorem st1 {h : H} {b off : Nat} {cs cs' : List Value} {E : TypeId} {m : AM.Own} {v : Value} (hb : h b = some (.cells cs E m)) (hm : m ≠ .ro) (hbx : boxV v = true) (hc : v.cells = #[v]) (ho : off < cs.length) (he : cs.set off v = cs') {K : H → Prop} {u : Dm K} :
    u_st 1 off (.pointer (some ⟨b, 0, none⟩)) v h K u = K (upd h b (.cells cs' E m)) := by
  rw [s_st, ykdp, hb]
  simp only [hc]
  subst he
  have h1 : off + 1 ≤ cs.length := by omega
  simp [hm, hbx, h1]
theorem ypi4 {h : H} {b off : Nat} {cs cs' : List Value} {E : TypeId} {m : AM.Own} {v : Value} (hb : h b = some (.cells cs E m)) (hm : m ≠ .ro) (hbx : boxV v = true) (hc : v.cells = #[v]) (ho : off < cs.length) (he : cs.set off v = cs') {K : H → Prop} {u : Dm K} :
    ylel 1 (.pointer (some ⟨b, off, none⟩)) v h K u = K (upd h b (.cells cs' E m)) := by
  rw [ykdp, hb]
  simp only [hc]
  subst he
  have h1 : off + 1 ≤ cs.length := by omega
  simp [hm, hbx, h1]
section
variable {h : H} {K : K1}
theorem ya15 {vs vb vd : Value} {p : Int} {bs data : List Int} (hv : Sl sgC 4 h vs [(4096, 1024, p, vb), (65536, 512, 3, vd)]) (hp : p = 5 ∨ p = 7) (hb : Sl u8V 1 h vb bs) (hd : Sl u8V 1 h vd data) (hvq : ∃ q, vs = .slice (some ⟨q, 0, none⟩) 2 2) (hbl : bs.length ≤ 1024) (hdl : data.length ≤ 512) (hk : ∀ h', Sub h h' → K (.int .i64 0) h') :
    AM.Spec PG y4nn [.agg #[.int .u32 4096, vs], noPol, yh6o] h K := by
  refine yljz _ _ _ _ _ ?_
  have hvb := hv.box
  simp (config := {dsimp := false}) [↓ywbb, ↓yn0m, hvb]
  intro b3 _ hb3 b4 _ n1 n2 hb4 b5 _ n3 n4 n5 n6 hb5
  have s3 : Sub h (upd (upd (upd h b3 (.cells [.int .u32 4096, vs] y33u .exact)) b4 (.cells [.bool false, nilV, nilV] y4pp .exact)) b5 (.cells [nilV, nilV, nilV, nilV, nilV, nilV] ylzr .exact)) := Sub.upd (Sub.upd (Sub.new hb3) hb4) hb5
  have c4 : upd (upd (upd h b3 (.cells [.int .u32 4096, vs] y33u .exact)) b4 (.cells [.bool false, nilV, nilV] y4pp .exact)) b5 (.cells [nilV, nilV, nilV, nilV, nilV, nilV] ylzr .exact) b4 = some (.cells [.bool false, nilV, nilV] y4pp .exact) := by rw [yrkk _ _ n4, yy0e]
  have c3 : upd (upd (upd h b3 (.cells [.int .u32 4096, vs] y33u .exact)) b4 (.cells [.bool false, nilV, nilV] y4pp .exact)) b5 (.cells [nilV, nilV, nilV, nilV, nilV, nilV] ylzr .exact) b3 = some (.cells [.int .u32 4096, vs] y33u .exact) := by rw [yrkk _ _ n6, yrkk _ _ n2, yy0e]
  have c5 := yy0e (upd (upd h b3 (.cells [.int .u32 4096, vs] y33u .exact)) b4 (.cells [.bool false, nilV, nilV] y4pp .exact)) b5 (.cells [nilV, nilV, nilV, nilV, nilV, nilV] ylzr .exact)
  generalize upd (upd (upd h b3 _) b4 _) b5 _ = h1 at *
  simp (config := {dsimp := false}) [yzql c3, n2, n6]
  refine ⟨rfl, y5xs (hv.mono s3) hp (hb.mono s3) (hd.mono s3) hvq hbl hdl ?_⟩
  simp (config := {dsimp := false}) [yzql c4]
  refine ⟨rfl, ypmx fun v h2 s4 hvx => ?_⟩
  have c5' := s4 _ _ c5
  simp (config := {dsimp := false}) [yzql c5']
  refine ⟨rfl, ynul ?_⟩
  simp (config := {dsimp := false})
  exact hk _ (s3.trans s4)
theorem stk_b : (0 ≤ stkSg.1.2.1 ∧ stkSg.1.2.1 < 4294967296) ∧ ∀ x ∈ stkSg.2, 0 ≤ x ∧ x < 256 := by
  unfold stkSg
  exact ⟨by simp, ynbh⟩
def zeros (n : Nat) : List Int := List.replicate n 0
def ys41 (p : Int) (vb vd : Value) (bs data : List Int) : List (Sg × List Int) := [((4096, 1024, p, vb), bs), ((65536, 512, 3, vd), data)]
def mc0 (q s f : Value) : MC := ⟨q, s, (zeros 32).set 2 2147479536, 4096, 0, zeros 128, f, false, nilV, nilV, 66048, 66048, nilV⟩
theorem mc_ok {q s f : Value} {x : List Int} {pc ret : Int} {pp : Bool} {s1 s2 al : Value} {b1 b2 : Int} (hx : x.length = 32) : MC.Ok ⟨q, s, x, pc, ret, zeros 128, f, pp, s1, s2, b1, b2, al⟩ := ⟨hx, List.length_replicate⟩
theorem y37b {vs vb vd : Value} {p pages dirty : Int} {bs data : List Int} (hv : Sl sgC 4 h vs [(4096, 1024, p, vb), (65536, 512, 3, vd)]) (hp : p = 5 ∨ p = 7) (hb : Sl u8V 1 h vb bs) (hd : Sl u8V 1 h vd data) (hvq : ∃ q, vs = .slice (some ⟨q, 0, none⟩) 2 2) (hbl : bs.length ≤ 1024) (hdl : data.length ≤ 512)
    (hbb : ∀ x ∈ bs, 0 ≤ x ∧ x < 256) (hdd : ∀ x ∈ data, 0 ≤ x ∧ x < 256) (hpg : 1 ≤ pages ∧ pages ≤ 4096) (hdi : 0 ≤ dirty ∧ dirty ≤ 4096)
    (hk1 : ∀ e h', e ≠ 0 → ((layF ⟨pages, [], []⟩ (ys41 p vb vd bs data)).1 = 0 → (layF (layF ⟨pages, [], []⟩ (ys41 p vb vd bs data)).2 [stkSg]).1 = 0 → False) → Sub h h' → K (.tuple #[.pointer none, .int .i64 e]) h')
    (hk2 : ∀ bm D sq sm f h' μ, μ = (layF (layF ⟨pages, [], []⟩ (ys41 p vb vd bs data)).2 [stkSg]).2 → (layF ⟨pages, [], []⟩ (ys41 p vb vd bs data)).1 = 0 → (layF (layF ⟨pages, [], []⟩ (ys41 p vb vd bs data)).2 [stkSg]).1 = 0 →
      MemIn h D h' μ → MSok μ → MSz μ → Sub h h' → h bm = none → h' bm = some (.cells (mc0 (ptr D.q 0) (ptr sq 0) f).cells ynne .exact) → h' sq = some (.cells [.int .i64 dirty, .map (some sm)] y2um .exact) → h' sm = some (.map (.int .u32) [] 0) →
      ¬ MOwn D μ sm → K (.tuple #[ptr bm 0, .int .i64 0]) h') :
    AM.Spec PG yuxz [.agg #[.int .u32 4096, vs], noPol, yh6o, .int .i64 pages, .int .i64 dirty] h K := by
  refine y2up _ _ _ _ _ _ _ ?_
  have hvb := hv.box
  simp (config := {dsimp := false}) [↓y3x1, ↓yw9r, hvb]
  intro b5 _ hb5 b6 _ n1 n2 hb6 b7 _ n3 n4 n5 n6 hb7
  have s3 : Sub h (upd (upd (upd h b5 (.cells [.int .u32 4096, vs] y33u .exact)) b6 (.cells [.bool false, nilV, nilV] y4pp .exact)) b7 (.cells [nilV, nilV, nilV, nilV, nilV, nilV] ylzr .exact)) := Sub.upd (Sub.upd (Sub.new hb5) hb6) hb7
  have c6 : upd (upd (upd h b5 (.cells [.int .u32 4096, vs] y33u .exact)) b6 (.cells [.bool false, nilV, nilV] y4pp .exact)) b7 (.cells [nilV, nilV, nilV, nilV, nilV, nilV] ylzr .exact) b6 = some (.cells [.bool false, nilV, nilV] y4pp .exact) := by rw [yrkk _ _ n4, yy0e]
  have c5 : upd (upd (upd h b5 (.cells [.int .u32 4096, vs] y33u .exact)) b6 (.cells [.bool false, nilV, nilV] y4pp .exact)) b7 (.cells [nilV, nilV, nilV, nilV, nilV, nilV] ylzr .exact) b5 = some (.cells [.int .u32 4096, vs] y33u .exact) := by rw [yrkk _ _ n6, yrkk _ _ n2, yy0e]
  have c7 := yy0e (upd (upd h b5 (.cells [.int .u32 4096, vs] y33u .exact)) b6 (.cells [.bool false, nilV, nilV] y4pp .exact)) b7 (.cells [nilV, nilV, nilV, nilV, nilV, nilV] ylzr .exact)
  generalize upd (upd (upd h b5 _) b6 _) b7 _ = h1 at *
  simp (config := {dsimp := false}) [yzql c5, yzql c6, yzql c7, n2, n4, n6]
  refine ⟨rfl, ya15 (hv.mono s3) hp (hb.mono s3) (hd.mono s3) hvq hbl hdl fun h2 s4 => ?_⟩
  replace c5 := s4 _ _ c5
  replace c6 := s4 _ _ c6
  replace c7 := s4 _ _ c7
  replace s3 := s3.trans s4
  clear s4
  simp (config := {dsimp := false}) [↓yb6e, ↓yhrb, yzql c5, yzql c6, yzql c7, hvb]
  refine ⟨rfl, y6tp fun h3 s4 => ?_⟩
  replace c5 := s4 _ _ c5
  replace c7 := s4 _ _ c7
  replace s3 := s3.trans s4
  clear s4 c6
  simp (config := {dsimp := false}) [yzql c5, yzql c7, hvb]
  refine ⟨rfl, y2a2 fun f q mo mu h4 s4 hf hq hmo hmu hnd e1 e2 e3 e4 => ?_⟩
  replace c5 := s4 _ _ c5
  replace c7 := s4 _ _ c7
  replace s3 := s3.trans s4
  clear s4
  simp (config := {dsimp := false}) [yzql c5, hvb]
  refine ⟨rfl, y8iy (hv.mono s3) ?_⟩
  simp (config := {dsimp := false}) [yzql c5, hvb]
  refine ⟨rfl, y8iy (hv.mono s3) ?_⟩
  simp (config := {dsimp := false})
  intro bm _ hbm
  have hbm0 := Sub.none s3 hbm
  obtain ⟨C, hC⟩ : ∃ C : MC, C = ⟨.pointer none, .pointer none, zeros 32, 0, 0, zeros 128, ptr f 0, false, nilV, nilV, 66048, 66048, nilV⟩ := ⟨_, rfl⟩
  have hCc : C.cells = MC.cells ⟨.pointer none, .pointer none, zeros 32, 0, 0, zeros 128, ptr f 0, false, nilV, nilV, 66048, 66048, nilV⟩ := by rw [hC]
  have hCo : C.Ok := by rw [hC]; exact mc_ok List.length_replicate
  refine (show ∀ cs, cs = C.cells → yrnp (.int .i64 pages) (.int .i64 dirty) (ptr b5 0) (ptr b7 0) (ptr bm 0) (upd h4 bm (.cells cs ynne .exact)) (fun y10 y11 h => (boxV y10 = true ∧ boxV y11 = true) ∧ K (.tuple #[y10, y11]) h) (fun y10 y11 h => (boxV y10 = true ∧ boxV y11 = true) ∧ K (.tuple #[y10, y11]) h) from ?_) _ (by rw [hCc]; rfl)
  rintro _ rfl
  have m5 : b5 ≠ bm := fun e => by rw [e, hbm] at c5; cases c5
  have m7 : b7 ≠ bm := fun e => by rw [e, hbm] at c7; cases c7
  have s5 : Sub h (upd h4 bm (.cells C.cells ynne .exact)) := Sub.upd s3 hbm0
  replace c5 := (yrkk _ (.cells C.cells ynne .exact) m5).trans c5
  replace c7 := (yrkk _ (.cells C.cells ynne .exact) m7).trans c7
  have cm := yy0e h4 bm (.cells C.cells ynne .exact)
  generalize upd h4 bm _ = h5 at *
  clear s3 e1 e2 e3 e4
  unfold yrnp
  refine ⟨rfl, ymf4 hpg.1 hpg.2 fun D h6 hm s6 => ?_⟩
  replace hm : MemIn h D h6 ⟨pages, [], []⟩ := ⟨hm.at_, fun b hb => Sub.none s5 (hm.new b hb), hm.ne, hm.inj, hm.nd⟩
  replace c5 := s6 _ _ c5
  replace c7 := s6 _ _ c7
  replace cm := s6 _ _ cm
  replace s5 := s5.trans s6
  have nb : ¬ MOwn D ⟨pages, [], []⟩ bm := hm.at_.other cm (by decide) (by decide)
  have nb5 : ¬ MOwn D ⟨pages, [], []⟩ b5 := hm.at_.other c5 (by decide) (by decide)
  have nb7 : ¬ MOwn D ⟨pages, [], []⟩ b7 := hm.at_.other c7 (by decide) (by decide)
  have hlen : C.cells.length = 171 := MC.len hCo
  simp (config := {dsimp := false}) only [s_ex0, s_ex1, s_nil]
  rw [st1 (v := ptr D.q 0) cm (by decide) rfl rfl (by omega) MC.set_q]
  simp (config := {dsimp := false}) only [s_neq, s_if]
  simp (config := {dsimp := false})
  replace hm := hm.over (q := .cells ({ C with q := ptr D.q 0 } : MC).cells ynne .exact) nb
  replace c5 := (yrkk _ (.cells ({ C with q := ptr D.q 0 } : MC).cells ynne .exact) m5).trans c5
  replace c7 := (yrkk _ (.cells ({ C with q := ptr D.q 0 } : MC).cells ynne .exact) m7).trans c7
  replace s5 : Sub h (upd h6 bm (.cells ({ C with q := ptr D.q 0 } : MC).cells ynne .exact)) := Sub.upd s5 hbm0
  replace cm := yy0e h6 bm (.cells ({ C with q := ptr D.q 0 } : MC).cells ynne .exact)
  generalize upd h6 bm _ = h7 at *
  refine ⟨rfl, yil7 hdi.1 hdi.2 fun sq sm h8 hsq hsm hss k1 k2 s8 => ?_⟩
  have hsq7 := hsq
  have nsm : ¬ MOwn D ⟨pages, [], []⟩ sm := fun hc => by
    rcases hc with rfl | rfl | rfl | ⟨e, he, rfl⟩
    · have := hm.at_.q; rw [hsm] at this; cases this
    · obtain ⟨ck, this⟩ := hm.at_.pm; rw [hsm] at this; cases this
    · obtain ⟨ck, this⟩ := hm.at_.gm; rw [hsm] at this; cases this
    · simp at he
  have ms : sm ≠ bm := fun e => by rw [← e, hsm] at cm; cases cm
  have mq : sq ≠ bm := fun e => by rw [← e, hsq] at cm; cases cm
  replace hm := hm.sub s8
  replace c5 := s8 _ _ c5
  replace c7 := s8 _ _ c7
  replace cm := s8 _ _ cm
  replace s5 := s5.trans s8
  have hCo2 : ({ C with q := ptr D.q 0 } : MC).Ok := ⟨hCo.x, hCo.t⟩
  have hlen2 := MC.len hCo2
  simp (config := {dsimp := false}) only [s_ex0, s_ex1, s_nil]
  rw [st1 (v := ptr sq 0) cm (by decide) rfl rfl (by omega) MC.set_s]
  simp (config := {dsimp := false}) only [s_neq, s_if]
  simp (config := {dsimp := false})
  obtain ⟨C2, hC2⟩ : ∃ C2 : MC, C2 = { C with q := ptr D.q 0, s := ptr sq 0 } := ⟨_, rfl⟩
  have hCo3 : C2.Ok := by rw [hC2]; exact ⟨hCo.x, hCo.t⟩
  rw [← hC2]
  replace hm := hm.over (q := .cells C2.cells ynne .exact) nb
  replace c5 := (yrkk _ (.cells C2.cells ynne .exact) m5).trans c5
  replace c7 := (yrkk _ (.cells C2.cells ynne .exact) m7).trans c7
  replace s5 : Sub h (upd h8 bm (.cells C2.cells ynne .exact)) := Sub.upd s5 hbm0
  replace cm := yy0e h8 bm (.cells C2.cells ynne .exact)
  replace k1 := (yrkk _ (.cells C2.cells ynne .exact) mq).trans k1
  replace k2 := (yrkk _ (.cells C2.cells ynne .exact) ms).trans k2
  generalize upd h8 bm _ = h9 at *
  simp (config := {dsimp := false}) [yb3e c5]
  have hq2 : C2.q = ptr D.q 0 := by rw [hC2]
  have cm' : h9 bm = some (.cells (ptr D.q 0 :: C2.cells.tail) ynne .exact) := by rw [cm]; congr 2; rw [← hq2]; rfl
  have hsegs : Sl sgC 4 h vs ((ys41 p vb vd bs data).map (·.1)) := hv
  have hw0 : MSok ⟨pages, [], []⟩ := ⟨by simp, by simp, by simp⟩
  have hz0 : MSz ⟨pages, [], []⟩ := ⟨by simp; omega, hpg.2⟩
  refine ⟨by simp [hvb], y5zb cm' hm hw0 hz0 s5 hsegs ?_ (by simp [ys41]) fun E2 h10 w1 => ?_⟩
  · intro sg hsg
    simp only [ys41, List.mem_cons, List.not_mem_nil, or_false] at hsg
    rcases hsg with rfl | rfl
    · exact ⟨⟨by simp, by simp⟩, ⟨by simp, by simp⟩, hb, hbb, by show bs.length < _; omega⟩
    · exact ⟨⟨by simp, by simp⟩, ⟨by simp, by simp⟩, hd, hdd, by show data.length < _; omega⟩
  have hkeep := y0xk (segs := ys41 p vb vd bs data) hw0 hz0 (by
    intro sg hsg
    simp only [ys41, List.mem_cons, List.not_mem_nil, or_false] at hsg
    rcases hsg with rfl | rfl
    · exact ⟨⟨by simp, by simp⟩, hbb⟩
    · exact ⟨⟨by simp, by simp⟩, hdd⟩)
  have s10 := w1.sub0 hm s5
  by_cases he : (layF ⟨pages, [], []⟩ (ys41 p vb vd bs data)).1 = 0
  case neg =>
    simp (config := {dsimp := false}) [he]
    exact hk1 _ h10 he (fun a _ => he a) s10
  replace hk2 := fun a b c d e f g h => hk2 a b c d e f g h
  replace hk1 := fun a b c => hk1 a b c
  generalize layF ⟨pages, [], []⟩ (ys41 p vb vd bs data) = L1 at *
  obtain ⟨hw1, hz1⟩ := hkeep
  have c5' := w1.fr _ _ (hm.at_.other c5 (by decide) (by decide)) c5
  have c7' := w1.fr _ _ (hm.at_.other c7 (by decide) (by decide)) c7
  have cm1 := w1.fr _ _ (hm.at_.other cm (by decide) (by decide)) cm
  have k1' := w1.fr _ _ (hm.at_.other k1 (by decide) (by decide)) k1
  have k2' := w1.fr _ _ nsm k2
  have nsm1 : ¬ MOwn E2 L1.2 sm := fun hc => (w1.own sm hc).elim nsm fun hn => by rw [k2] at hn; cases hn
  have e7 : h10 bm = some (.cells C2.cells ynne .exact) := cm1
  have l0 : C2.cells[0]? = some (ptr D.q 0) := by rw [MC.at_0, hq2]
  simp (config := {dsimp := false}) [he, ↓y6nv, ↓yd7u, yb3e cm1, yb3e c7', l0]
  have eqD : D.q = E2.q := w1.q.symm
  refine ⟨rfl, ?_⟩
  rw [eqD]
  refine yid5 w1.mem hw1 hz1 s10 fun E3 h11 w2 => ?_
  have hkeep2 := y0xk (segs := [stkSg]) hw1 hz1 (by
    intro sg hsg
    simp only [List.mem_singleton] at hsg
    subst hsg
    exact stk_b)
  have s11 := w2.sub0 w1.mem s10
  generalize layF L1.2 [stkSg] = L2 at *
  by_cases he2 : L2.1 = 0
  case neg =>
    rw [if_neg he2]
    simp (config := {dsimp := false}) [he2, ↓yfc7]
    exact hk1 _ h11 he2 (fun _ b => he2 b) s11
  obtain ⟨hw2, hz2⟩ := hkeep2
  have c5'' := w2.fr _ _ (w1.mem.at_.other c5' (by decide) (by decide)) c5'
  have cm2 := w2.fr _ _ (w1.mem.at_.other cm1 (by decide) (by decide)) cm1
  have k1'' := w2.fr _ _ (w1.mem.at_.other k1' (by decide) (by decide)) k1'
  have k2'' := w2.fr _ _ nsm1 k2'
  have nsm2 : ¬ MOwn E3 L2.2 sm := fun hc => (w2.own sm hc).elim nsm1 fun hn => by rw [k2'] at hn; cases hn
  have nbm2 : ¬ MOwn E3 L2.2 bm := w2.mem.at_.other cm2 (by decide) (by decide)
  have lsrc : C2.cells[166]? = some nilV := by rw [MC.at_src hCo3, hC2, hC]
  rw [if_pos he2]
  generalize hsp : (2147479536 : Int) = sp
  simp (config := {dsimp := false}) only [yn1j, y39e, y2kc]
  simp (config := {dsimp := false}) only [↓yfc7, s_neq, s_if, he2]
  simp (config := {dsimp := false}) [↓ybf2, ↓yoba, ↓yqgx, yb3e cm2, lsrc]
  unfold yw31
  refine yq9z fun K' => ?_
  have hlen3 := MC.len hCo3
  have stp : ∀ (K : H → Prop) (u : Dm K), u_st 1 32 (.pointer (some ⟨bm, 2, none⟩)) (.int .u32 4096) h11 K u = K (upd h11 bm (.cells ({ C2 with pc := 4096 } : MC).cells ynne .exact)) := fun K u => by
    rw [s_st]; exact ypi4 cm2 (by decide) rfl rfl (by omega) (MC.set_pc hCo3)
  simp (config := {dsimp := false}) [↓ybse, ↓y4zr, yb3e c5'', stp]
  have cm3 := yy0e h11 bm (.cells ({ C2 with pc := 4096 } : MC).cells ynne .exact)
  have hCo4 : ({ C2 with pc := 4096 } : MC).Ok := ⟨hCo3.x, hCo3.t⟩
  have hlen4 := MC.len hCo4
  refine ⟨by omega, ?_⟩
  rw [show ({ C2 with pc := 4096 } : MC).cells.set 4 (.int .u32 sp) = _ from MC.set_x hCo4 (i := 2) (by omega)]
  have hbq : sq ≠ bm := mq
  refine hk2 bm E3 sq sm (ptr f 0) _ _ rfl he he2 (w2.mem.over nbm2) hw2 hz2 (Sub.upd s11 hbm0) hbm0 ?_ ((yrkk _ _ mq).trans k1'') ((yrkk _ _ ms).trans k2'') nsm2
  have eC : ({ C2 with pc := 4096, x := C2.x.set 2 sp } : MC) = mc0 (ptr E3.q 0) (ptr sq 0) (ptr f 0) := by
    rw [w2.q, w1.q, hC2, hC, ← hsp]; rfl
  rw [yy0e, ← eC]
end
end Go.Proofs.YtnckimioabkheaaGreat

set_option linter.unusedSimpArgs false
set_option linter.unusedVariables false
set_option maxRecDepth 100000
namespace Go.Proofs.YtnckimioabkheaaGreat
open AM
structure RD where
  q : Nat
  vl : Value
  bl : Option Nat
  vg : Value
  bg : Option Nat
def pgC (p : Int × Int × List Int) : List Value := .int .u32 p.1 :: .int .i64 p.2.1 :: p.2.2.map (.int .u8)
def gnC (g : Int × Int) : List Value := [.int .u32 g.1, .int .u32 g.2]
structure RAt (D : RD) (h : H) (ρ : MS) : Prop where
  q : h D.q = some (.cells [.int .i64 ρ.budget, D.vl, D.vg] yxex .exact)
  l : OL pgC 258 yezi h D.vl ρ.pages D.bl
  g : OL gnC 2 yrli h D.vg ρ.gens D.bg
def ROwn (D : RD) (b : Nat) : Prop := b = D.q ∨ D.bl = some b ∨ D.bg = some b
structure RIn (h0 : H) (D : RD) (h : H) (ρ : MS) : Prop where
  at_ : RAt D h ρ
  new : ∀ b, ROwn D b → h0 b = none
structure RWent (h0 : H) (D : RD) (h : H) (D' : RD) (ρ' : MS) (h' : H) : Prop where
  mem : RIn h0 D' h' ρ'
  q : D'.q = D.q
  fr : Fr (ROwn D) h h'
  own : ∀ b, ROwn D' b → ROwn D b ∨ h b = none
section
variable {h0 h h' : H} {D : RD} {ρ : MS} {K : K1}
theorem RAt.there (hr : RAt D h ρ) {b : Nat} (hb : ROwn D b) : h b ≠ none := by
  rcases hb with rfl | hb | hb
  · rw [hr.q]; simp
  · exact hr.l.there hb
  · exact hr.g.there hb
theorem RAt.keep (hr : RAt D h ρ) (hk : ∀ b, ROwn D b → h' b = h b) : RAt D h' ρ :=
  ⟨by rw [hk _ (.inl rfl)]; exact hr.q, hr.l.keep fun c hc => hk c (.inr (.inl hc)), hr.g.keep fun c hc => hk c (.inr (.inr hc))⟩
theorem RAt.sub (hr : RAt D h ρ) (hs : Sub h h') : RAt D h' ρ := hr.keep fun b hb => by
  cases hq : h b with
  | none => exact absurd hq (hr.there hb)
  | some o => exact hs _ _ hq
theorem RAt.lq (hr : RAt D h ρ) : D.bl ≠ some D.q := fun he => by
  obtain ⟨_, ⟨_, h1, _⟩ | ⟨c, m, h1, _, _, h4, _⟩⟩ := hr.l
  · rw [h1] at he; cases he
  · rw [h1] at he; cases he; rw [hr.q] at h4; simp only [Option.some.injEq, AObj.cells.injEq] at h4; exact absurd h4.2.1 (by decide)
theorem RAt.gq (hr : RAt D h ρ) : D.bg ≠ some D.q := fun he => by
  obtain ⟨_, ⟨_, h1, _⟩ | ⟨c, m, h1, _, _, h4, _⟩⟩ := hr.g
  · rw [h1] at he; cases he
  · rw [h1] at he; cases he; rw [hr.q] at h4; simp only [Option.some.injEq, AObj.cells.injEq] at h4; exact absurd h4.2.1 (by decide)
theorem RAt.lg (hr : RAt D h ρ) {c : Nat} (hl : D.bl = some c) : D.bg ≠ some c := fun he => by
  obtain ⟨_, ⟨_, h1, _⟩ | ⟨c', m, h1, _, _, h4, _⟩⟩ := hr.l
  · rw [h1] at hl; cases hl
  · rw [h1] at hl; cases hl
    obtain ⟨_, ⟨_, h1, _⟩ | ⟨c', m, h1, _, _, h5, _⟩⟩ := hr.g
    · rw [h1] at he; cases he
    · rw [h1] at he; cases he; rw [h4] at h5; simp only [Option.some.injEq, AObj.cells.injEq] at h5; exact absurd h5.2.1 (by decide)
theorem RWent.refl (hm : RIn h0 D h ρ) : RWent h0 D h D ρ h := ⟨hm, rfl, fun _ _ _ h => h, fun _ h => .inl h⟩
theorem RWent.trans {E1 E2 : RD} {ρ1 ρ2 : MS} {h1 h2 : H} (a : RWent h0 D h E1 ρ1 h1) (b : RWent h0 E1 h1 E2 ρ2 h2) : RWent h0 D h E2 ρ2 h2 := by
  have hfr : Fr (ROwn D) h h2 := fun x o hx ho => b.fr x o (fun hc => by
    rcases a.own x hc with h5 | h5
    · exact hx h5
    · rw [ho] at h5; cases h5) (a.fr x o hx ho)
  refine ⟨b.mem, b.q.trans a.q, hfr, fun x hx => ?_⟩
  rcases b.own x hx with h5 | h5
  · exact a.own x h5
  · by_cases hx2 : ROwn D x
    · exact .inl hx2
    · refine .inr ?_
      cases hh : h x with
      | none => rfl
      | some o => have := a.fr x o hx2 hh; rw [h5] at this; cases this
theorem RWent.sub0 {E1 : RD} {ρ1 : MS} {h1 : H} (a : RWent h0 D h E1 ρ1 h1) (hm : RIn h0 D h ρ) (hs : Sub h0 h) : Sub h0 h1 := a.fr.sub hs hm.new
theorem yvs7 {l : List (Int × Int × List Int)} {i : Nat} (hi : i < l.length) : (pgC l[i])[0]? = some (.int .u32 l[i].1) := rfl
theorem ym94 {a : Int} (hr : RAt D h ρ) (hl : ρ.pages.length ≤ 100000) (hk : K (.tuple #[.int .i64 (atN ρ.pages (yovn a)), .bool (atB ρ.pages (yovn a))]) h) : AM.Spec PG yhnf [ptr D.q 0, .int .u32 a] h K := by
  refine y1i7 _ _ _ _ ?_
  have e : IntKind.u32.wrap (a - a.tmod 256) = yovn a := rfl
  simp (config := {dsimp := false}) [↓y1e4, ↓ykfg, ↓ynky, ↓ypgi, e]
  generalize yovn a = b at *
  have hle := ypas ρ.pages b
  unfold yc0h
  refine yo1k (atN ρ.pages b) (fun i s h' => h' = h ∧ s = (ptr D.q 0, .int .u32 b, .int .i64 i)) ⟨rfl, rfl⟩ ?_
  rintro i s h' K' hi ⟨rfl, rfl⟩ hk'
  have w1 : IntKind.i64.wrap ((i : Int) + 1) = ((i + 1 : Nat) : Int) := by rw [w_i64 (by omega) (by omega)]; omega
  by_cases hlt : i < atN ρ.pages b
  · have hil : i < ρ.pages.length := by omega
    have hix := fun (K : Value → Prop) (u : Dm K) => hr.l.sl.ixf (k := .i64) (off := 0) hil (yvs7 hil) (K := K) (u := u)
    have hb := y5ap hlt
    simp (config := {dsimp := false}) [↓y4ap, yb3e hr.q, hr.l.sl.ulen, hil, hix, hb, w1]
    exact hk' _ _ hlt ⟨rfl, by simp⟩
  · have hie : i = atN ρ.pages b := by omega
    subst hie
    by_cases hil : atN ρ.pages b < ρ.pages.length
    · have hix := fun (K : Value → Prop) (u : Dm K) => hr.l.sl.ixf (k := .i64) (off := 0) hil (yvs7 hil) (K := K) (u := u)
      have hb := yjnv hil
      have hB : atB ρ.pages b = decide ((ρ.pages[atN ρ.pages b]).1 = b) := by unfold atB; rw [List.getElem?_eq_getElem hil]
      rw [hB] at hk
      simp (config := {dsimp := false}) [↓y4ap, ↓yf7k, ↓yekl, ↓yzan, yb3e hr.q, hr.l.sl.ulen, hil, hix, hb]
      exact hk
    · have hB : atB ρ.pages b = false := by unfold atB; rw [List.getElem?_eq_none (by omega)]
      rw [hB] at hk
      simp (config := {dsimp := false}) [↓y4ap, ↓yf7k, ↓yekl, ↓yzan, yb3e hr.q, hr.l.sl.ulen, yiad]
      rw [if_neg hil, if_neg hil]
      exact hk
def rperm (ρ : MS) (b : Int) : Int × Bool := match fnd b ρ.pages with | some q => (q.1, true) | none => (0, false)
theorem y375 {a : Int} (hr : RAt D h ρ) (hs : Srt ρ.pages) (hl : ρ.pages.length ≤ 100000) (hk : K (.tuple #[.int .i64 (rperm ρ (yovn a)).1, .bool (rperm ρ (yovn a)).2]) h) : AM.Spec PG ycsm [ptr D.q 0, .int .u32 a] h K := by
  refine ywrr _ _ _ _ ?_
  unfold ygos yyf5
  refine ⟨rfl, ym94 hr hl ?_⟩
  unfold rperm at hk
  rw [y64n hs] at hk
  cases hB : atB ρ.pages (yovn a) with
  | false =>
    rw [hB] at hk
    simp (config := {dsimp := false})
    simpa using hk
  | true =>
    obtain ⟨hi, _⟩ := yiee hB
    have hix := fun (K : Value → Prop) (u : Dm K) => hr.l.sl.ixf (k := .i64) (off := 1) hi (show (pgC ρ.pages[atN ρ.pages (yovn a)])[1]? = some (.int .i64 ρ.pages[atN ρ.pages (yovn a)].2.1) from rfl) (K := K) (u := u)
    rw [hB] at hk
    simp only [if_true, List.getElem?_eq_getElem hi, Option.map_some] at hk
    simp (config := {dsimp := false}) [yb3e hr.q, hix]
    exact hk
theorem wi64 {x : Int} (h0 : -9223372036854775808 ≤ x) (h1 : x < 9223372036854775808) : IntKind.i64.wrap x = x := w_i64 h0 h1
theorem y7i1 {a n need : Int} (hr : RAt D h ρ) (hs : Srt ρ.pages) (hl : ρ.pages.length ≤ 100000) (ha : 0 ≤ a) (ha2 : a < 4294967296) (hn : 0 ≤ n) (hn2 : n < 1000000000) (hk : K (.bool (allF ρ a n need)) h) :
    AM.Spec PG yy8p [ptr D.q 0, .int .u32 a, .int .i64 n, .int .i64 need] h K := by
  refine ylw4 _ _ _ _ _ _ ?_
  have wa : IntKind.i64.wrap a = a := wi64 (by omega) (by omega)
  have wan : IntKind.i64.wrap (a + n) = a + n := wi64 (by omega) (by omega)
  unfold allF at hk
  simp (config := {dsimp := false}) [↓ytnd, ↓y499, wa, wan]
  split
  · rename_i c
    rw [if_pos (by omega)] at hk
    exact hk
  rename_i c0
  rw [if_neg (by omega)] at hk
  split
  · rename_i c
    rw [if_pos c] at hk
    exact hk
  rename_i c1
  rw [if_neg c1] at hk
  have e : IntKind.u32.wrap (a - a.tmod 256) = yovn a := rfl
  have hb0 := ydjw ha ha2
  have hb1 := ydjw (a := a + n - 1) (by omega) (by omega)
  have wb : IntKind.i64.wrap (yovn a) = yovn a := wi64 (by omega) (by omega)
  simp (config := {dsimp := false}) [↓ye8e, ↓y954, ↓y8dj, e, wb]
  unfold yhuv
  obtain ⟨m, hm⟩ : ∃ m : Nat, yovn (a + n - 1) = yovn a + 256 * m := ⟨((yovn (a + n - 1) - yovn a) / 256).toNat, by omega⟩
  have hm2 : ((yovn (a + n - 1) - yovn a) / 256).toNat = m := by omega
  rw [hm2, hm] at hk
  generalize hR : allL ρ need (yovn a + 256 * m) (m + 1) (yovn a) = R at *
  refine yo1k (m + 1) (fun i s h' => h' = h ∧ s = (ptr D.q 0, .int .u32 a, .int .i64 n, .int .i64 need, .int .i64 (yovn a + 256 * i)) ∧ (i ≤ m → R = allL ρ need (yovn a + 256 * m) (m + 1 - i) (yovn a + 256 * i)) ∧ (m < i → R = true)) ⟨rfl, by simp, by simp [hR], by omega⟩ ?_
  rintro i s h' K' hi ⟨rfl, rfl, q1, q2⟩ hk'
  have w1 : IntKind.i64.wrap (yovn a + 256 * (i : Int) + 256) = yovn a + 256 * ((i + 1 : Nat) : Int) := by rw [wi64 (by omega) (by omega)]; omega
  by_cases hlt : i ≤ m
  · have d1 : yovn a + 256 * (i : Int) < a + n := by omega
    have w2 : IntKind.u32.wrap (yovn a + 256 * (i : Int)) = yovn a + 256 * i := w_u32 (by omega) (by omega)
    simp (config := {dsimp := false}) [↓ygex, wa, wan, d1, w2]
    refine ⟨rfl, y375 hr hs hl ?_⟩
    have hbb : yovn (yovn a + 256 * (i : Int)) = yovn a + 256 * i := by rw [ydjw (by omega) (by omega)]; omega
    rw [hbb]
    have q1 := q1 hlt
    obtain ⟨f, hf⟩ : ∃ f, m + 1 - i = f + 1 := ⟨m - i, by omega⟩
    rw [hf, allL] at q1
    unfold rperm
    cases hq : fnd (yovn a + 256 * (i : Int)) ρ.pages with
    | none =>
      rw [hq] at q1
      simp only at q1
      rw [q1] at hk
      simp (config := {dsimp := false}) [ysbf]
      exact hk
    | some q =>
      rw [hq] at q1
      simp only at q1
      simp (config := {dsimp := false}) [w1, ysbf]
      by_cases hp : yxdd q.1 need
      · rw [if_pos hp] at q1
        have hp' : yxdd q.1 need := hp
        unfold yxdd at hp'
        simp at hp'
        rw [if_pos (by simpa using hp')]
        refine hk' _ _ (by omega) ⟨rfl, rfl, fun hi1 => ?_, fun hi1 => ?_⟩
        · rw [if_neg (by omega)] at q1
          have w3 : IntKind.u32.wrap (yovn a + 256 * (i : Int) + 256) = yovn a + 256 * ((i + 1 : Nat) : Int) := by rw [w_u32 (by omega) (by omega)]; omega
          rw [w3] at q1
          rw [q1]
          congr 1
          omega
        · rw [if_pos (by omega)] at q1
          exact q1
      · rw [if_neg hp] at q1
        have hp' : ¬ yxdd q.1 need := hp
        unfold yxdd at hp'
        simp at hp'
        rw [if_neg (by simpa using hp')]
        rw [q1] at hk
        exact hk
  · have d1 : ¬ yovn a + 256 * (i : Int) < a + n := by omega
    have q2 := q2 (by omega)
    rw [q2] at hk
    simp (config := {dsimp := false}) [↓ygex, wa, wan, d1, ↓y41e]
    exact hk
end
end Go.Proofs.YtnckimioabkheaaGreat

set_option linter.unusedSimpArgs false
set_option linter.unusedVariables false
set_option maxRecDepth 100000
namespace Go.Proofs.YtnckimioabkheaaGreat
open AM
theorem y667 {p g : Int} : ∀ {l : List (Int × Int)} {i : Nat} (hi : i < l.length), (∀ j (hj : j < l.length), j < i → l[j].1 ≠ p) → l[i].1 = p → gset l p g = l.set i (p, g)
  | [], i, hi, _, _ => by simp at hi
  | e :: r, 0, _, _, h => by
    have : p = e.1 := h.symm
    simp [gset, this]
  | e :: r, i + 1, hi, hn, h => by
    have h0 := hn 0 (by simp) (by omega)
    have : ¬ p = e.1 := fun he => h0 (by simpa using he.symm)
    simp only [gset, if_neg this, List.set_cons_succ]
    rw [y667 (by simpa using hi) (fun j hj hji => hn (j + 1) (by simpa using hj) (by omega)) (by simpa using h)]
theorem ymhw {p g : Int} : ∀ {l : List (Int × Int)}, (∀ e ∈ l, e.1 ≠ p) → gset l p g = l ++ [(p, g)]
  | [], _ => rfl
  | e :: r, h => by
    have : ¬ p = e.1 := fun he => h e (by simp) he.symm
    simp only [gset, if_neg this, List.cons_append]
    rw [ymhw fun x hx => h x (by simp [hx])]
theorem yq1u {p : Int} : ∀ {l : List (Int × Int)} {i : Nat} (hi : i < l.length), (∀ j (hj : j < l.length), j < i → l[j].1 ≠ p) → l[i].1 = p → fnd p l = some l[i].2
  | [], i, hi, _, _ => by simp at hi
  | e :: r, 0, _, _, h => by
    have : p = e.1 := h.symm
    simp [fnd, this]
  | e :: r, i + 1, hi, hn, h => by
    have h0 := hn 0 (by simp) (by omega)
    have : ¬ p = e.1 := fun he => h0 (by simpa using he.symm)
    simp only [fnd, if_neg this, List.getElem_cons_succ]
    exact yq1u (by simpa using hi) (fun j hj hji => hn (j + 1) (by simpa using hj) (by omega)) (by simpa using h)
theorem y1hv {p : Int} {o : Nat} {x : Int} {l : List (Int × Int × List Int)} (hs : Srt l) {k : Nat} (hk : k < l.length) (hp : l[k].1 = p) :
    l.map (fun e => if e.1 = p then (e.1, e.2.1, e.2.2.set o x) else e) = l.set k (p, l[k].2.1, l[k].2.2.set o x) := by
  refine List.ext_getElem? fun i => ?_
  rw [List.getElem?_map, List.getElem?_set]
  by_cases hi : i < l.length
  · rw [List.getElem?_eq_getElem hi]
    by_cases hik : k = i
    · subst hik; simp [hp, hk]
    · have hne : l[i].1 ≠ p := fun he => by
        have hpw := List.pairwise_iff_getElem.1 hs
        rcases Nat.lt_or_gt_of_ne hik with h1 | h1
        · have := hpw k i hk hi h1; omega
        · have := hpw i k hi hk h1; omega
      simp [hik, hne]
  · have : ¬ k = i := by omega
    simp [List.getElem?_eq_none (Nat.le_of_not_lt hi), this]
theorem yta6 {p : Int × Int × List Int} {o : Nat} {x : Int} : pgC (p.1, p.2.1, p.2.2.set o x) = setL (pgC p) (2 + o) [.int .u8 x] := by
  rw [yf16, ygug]
  unfold pgC
  rw [show 2 + o = o + 1 + 1 by omega]
  simp [List.map_set]
theorem Srt.keys {l m : List (Int × Int × List Int)} (hs : Srt l) (h : m.map (·.1) = l.map (·.1)) : Srt m := by
  have h1 : (l.map (·.1)).Pairwise (· < ·) := by rw [List.pairwise_map]; exact hs
  rw [← h, List.pairwise_map] at h1
  exact h1
theorem Srt.setB {ρ : MS} (hs : Srt ρ.pages) {p : Int} {o : Nat} {x : Int} : Srt (setB ρ p o x).pages := hs.keys yhcc
section
variable {h0 h h' : H} {D : RD} {ρ : MS} {K : K1}
theorem RIn.setB (hm : RIn h0 D h ρ) (hs : Srt ρ.pages) {k c : Nat} {p : Int} {o : Nat} {x : Int} {m : AM.Own} (hq : m ≠ .ro) (hk : k < ρ.pages.length) (hp : ρ.pages[k].1 = p) (ho : o < 256) (hc : D.bl = some c) :
    RWent h0 D h D (setB ρ p o x) (upd h c (.cells (setL (ρ.pages.flatMap pgC) (k * 258 + (2 + o)) [.int .u8 x]) yezi m)) := by
  have ne : ∀ b, b = D.q ∨ D.bg = some b → b ≠ c := fun b hb he => by
    subst he
    rcases hb with rfl | hb
    · exact hm.at_.lq hc
    · exact hm.at_.lg hc hb
  have e : (AM.upd h c (.cells (setL (ρ.pages.flatMap pgC) (k * 258 + (2 + o)) [.int .u8 x]) yezi m)) = _ := rfl
  refine ⟨⟨⟨?_, ?_, ?_⟩, hm.new⟩, rfl, fun b o' hb hbo => ?_, fun b hb => .inl hb⟩
  · rw [yrkk _ _ (ne _ (.inl rfl))]; exact hm.at_.q
  · have := hm.at_.l.set (w := (p, ρ.pages[k].2.1, ρ.pages[k].2.2.set o x)) (vs := [.int .u8 x]) (o := 2 + o) hk (by simp; omega) (by rw [← yta6, ← hp]) hc hq
    show OL pgC 258 yezi _ D.vl (ρ.pages.map fun e => if e.1 = p then (e.1, e.2.1, e.2.2.set o x) else e) D.bl
    rw [y1hv hs hk hp]
    exact this
  · exact hm.at_.g.keep fun d hd => yrkk _ _ (ne _ (.inr hd))
  · rw [yrkk _ _ fun he => hb (by subst he; exact .inr (.inl hc))]; exact hbo
theorem gn_at {l : List (Int × Int)} {i : Nat} (hi : i < l.length) : (gnC l[i])[0]? = some (.int .u32 l[i].1) ∧ (gnC l[i])[1]? = some (.int .u32 l[i].2) := ⟨rfl, rfl⟩
theorem y0ro {a : Int} (hm : RIn h0 D h ρ) (hsub : Sub h0 h) (hl : ρ.gens.length ≤ 100000) (hk : ∀ D' h', RWent h0 D h D' (bumpG ρ (yovn a)) h' → K (.tuple #[]) h') : AM.Spec PG yrlt [ptr D.q 0, .int .u32 a] h K := by
  refine yoeu _ _ _ _ ?_
  have e : IntKind.u32.wrap (a - a.tmod 256) = yovn a := rfl
  simp (config := {dsimp := false}) [↓y78d, ↓y6fl, ↓ykm6, ↓yw2b, ↓y9al, e]
  generalize yovn a = b at *
  unfold ydqt
  refine yo1k ρ.gens.length (fun i s h' => h' = h ∧ s = (ptr D.q 0, .int .u32 b, .int .i64 i) ∧ ∀ j (hj : j < ρ.gens.length), j < i → ρ.gens[j].1 ≠ b) ⟨rfl, rfl, by omega⟩ ?_
  rintro i s h' K' hi ⟨rfl, rfl, hn⟩ hk'
  have hg := hm.at_.g
  have hq := hm.at_.q
  by_cases hlt : i < ρ.gens.length
  · have i0 := fun (K : Value → Prop) (u : Dm K) => hg.sl.ixf (k := .i64) (off := 0) hlt (gn_at hlt).1 (K := K) (u := u)
    have i1 := fun (K : Value → Prop) (u : Dm K) => hg.sl.ixf (k := .i64) (off := 1) hlt (gn_at hlt).2 (K := K) (u := u)
    have w1 : IntKind.i64.wrap ((i : Int) + 1) = ((i + 1 : Nat) : Int) := by rw [w_i64 (by omega) (by omega)]; omega
    by_cases hb : ρ.gens[i].1 = b
    · obtain ⟨c, m, hc, hc2, hv, hcc, hmr⟩ := hg.ia hlt
      have hfl := yr37 (l := ρ.gens) hg.1
      simp (config := {dsimp := false}) [↓yrnw, yb3e hq, hg.sl.ulen, hlt, i0, i1, hb]
      rw [hv]
      rw [s_ia]
      refine ⟨by omega, by omega, ?_⟩
      rw [Int.toNat_natCast, s_st, ykdp, hcc]
      refine ⟨hmr, rfl, rfl, by rw [hfl]; omega, ?_⟩
      have hgs : gset ρ.gens b (IntKind.u32.wrap ((fnd b ρ.gens).getD 0 + 1)) = ρ.gens.set i (b, IntKind.u32.wrap (ρ.gens[i].2 + 1)) := by
        rw [yq1u hlt hn hb, Option.getD_some, y667 hlt hn hb]
      have hset := hg.set (w := (b, IntKind.u32.wrap (ρ.gens[i].2 + 1))) (vs := [.int .u32 (IntKind.u32.wrap (ρ.gens[i].2 + 1))]) (o := 1) hlt (by simp) (by rw [yf16, ygug]; simp [gnC, hb]) hc hmr
      have ne : ∀ d, d = D.q ∨ D.bl = some d → d ≠ c := fun d hd he => by
        subst he
        rcases hd with rfl | hd
        · exact hm.at_.gq hc
        · exact hm.at_.lg hd hc
      refine hk D _ ⟨⟨⟨?_, ?_, ?_⟩, hm.new⟩, rfl, fun d o' hd hdo => ?_, fun d hd => .inl hd⟩
      · rw [yrkk _ _ (ne _ (.inl rfl))]; exact hq
      · exact hm.at_.l.keep fun d hd => yrkk _ _ (ne _ (.inr hd))
      · show OL gnC 2 yrli _ D.vg (gset ρ.gens b _) D.bg
        rw [hgs]
        have e0 : 0 + i * 2 + 1 = i * 2 + 1 := by omega
        rw [e0]
        exact hset
      · rw [yrkk _ _ fun he => hd (by subst he; exact .inr (.inr hc))]; exact hdo
    · simp (config := {dsimp := false}) [↓yrnw, yb3e hq, hg.sl.ulen, hlt, i0, i1, hb, w1]
      refine hk' _ _ hlt ⟨rfl, by simp, fun j hj hji => ?_⟩
      by_cases hj2 : j < i
      · exact hn j hj hj2
      · have : j = i := by omega
        subst this; exact hb
  · have hie : i = ρ.gens.length := by omega
    subst hie
    have hnew : gset ρ.gens b (IntKind.u32.wrap ((fnd b ρ.gens).getD 0 + 1)) = ρ.gens ++ [(b, 1)] := by
      have hne : ∀ e ∈ ρ.gens, e.1 ≠ b := fun e he => by
        obtain ⟨j, hj, rfl⟩ := List.getElem_of_mem he
        exact hn j hj hj
      rw [yqwy hne, ymhw hne]; rfl
    simp (config := {dsimp := false}) [↓yrnw, ↓yq44, yb3e hq, hg.sl.ulen]
    intro c hc2 hcn
    have hcq : D.q ≠ c := fun he => by rw [he, hcn] at hq; cases hq
    have hq1 : upd h' c (.cells [] yrli .exact) D.q = _ := (yrkk _ _ hcq).trans hq
    simp (config := {dsimp := false}) [yb3e hq1, hcq]
    have s1 : Sub h' (upd h' c (.cells [] yrli .exact)) := Sub.new hcn
    have hg1 := hg.sl.mono s1
    refine OL.app (OL.empty hc2 (by simp)) hg1 (by omega) (by simp; omega) (by simp; omega) fun v1 h2 b1 o1 c1 f1 => ?_
    simp (config := {dsimp := false})
    refine OL.push (m := [(b, 1)]) o1 (by simp [gnC]) (by omega) (by simp; omega) (by simp; omega) (fun v2 h3 b2 o2 c2 => ?_) rfl rfl
    -- what has changed: fresh blocks alone
    have fresh1 : ∀ d, b1 = some d → h' d = none := fun d hd => by
      rcases c1.2 d hd with h5 | h5
      · cases h5; exact hcn
      · rw [ynej] at h5; exact h5.2.2
    have k1 : ∀ d o, h' d = some o → h2 d = some o := fun d o hd => c1.1 d o (s1 d o hd) fun he => by cases he; rw [hcn] at hd; cases hd
    have k2 : ∀ d o, h' d = some o → h3 d = some o := fun d o hd => c2.1 d o (k1 d o hd) fun he => by rw [fresh1 d he] at hd; cases hd
    have fresh2 : ∀ d, b2 = some d → h' d = none := fun d hd => by
      rcases c2.2 d hd with h5 | h5
      · exact fresh1 d h5
      · cases hq : h' d with
        | none => rfl
        | some o => rw [k1 d o hq] at h5; cases h5
    have hq3 := k2 _ _ hq
    have hlt3 : RAt D h3 ρ := hm.at_.sub k2
    simp (config := {dsimp := false}) [hq3, o2.sl.box]
    have hcell : v2.cells = #[v2] := by
      obtain ⟨_, ⟨_, _, rfl⟩ | ⟨_, _, _, _, rfl, _⟩⟩ := o2 <;> rfl
    rw [hcell]
    refine ⟨rfl, ?_⟩
    have hnq : b2 ≠ some D.q := fun he => by rw [fresh2 _ he] at hq; cases hq
    have hx : OL gnC 2 yrli h3 v2 (ρ.gens ++ [(b, 1)]) b2 := by simpa using o2
    refine hk ⟨D.q, D.vl, D.bl, v2, b2⟩ _ ⟨⟨⟨?_, ?_, ?_⟩, fun d hd => ?_⟩, rfl, fun d o hd hdo => ?_, fun d hd => ?_⟩
    · show _ = some (AObj.cells [.int .i64 (bumpG ρ b).budget, D.vl, v2] _ _)
      simp [bumpG]
    · exact hlt3.l.keep fun d hd => yrkk _ _ fun he => hm.at_.lq (he ▸ hd)
    · show OL gnC 2 yrli _ v2 (gset ρ.gens b _) b2
      rw [hnew]
      exact hx.keep fun d hd => yrkk _ _ fun he => hnq (he ▸ hd)
    · rcases hd with hd | hd | hd
      · exact hm.new d (.inl hd)
      · exact hm.new d (.inr (.inl hd))
      · exact Sub.none hsub (fresh2 d hd)
    · rw [yrkk _ _ fun he => hd (.inl he)]; exact k2 d o hdo
    · rcases hd with hd | hd | hd
      · exact .inl (.inl hd)
      · exact .inl (.inr (.inl hd))
      · exact .inr (fresh2 d hd)
end
end Go.Proofs.YtnckimioabkheaaGreat

set_option linter.unusedSimpArgs false
set_option linter.unusedVariables false
set_option maxRecDepth 100000
namespace Go.Proofs.YtnckimioabkheaaGreat
open AM
theorem Srt.wrM {ρ : MS} (hs : Srt ρ.pages) {a : Int} {bs : List Int} (i : Nat) : Srt (wrM ρ a bs i).pages := hs.keys (ynn2 i)
theorem yf9x {p g : Int} : ∀ {l : List (Int × Int)}, (gset l p g).length ≤ l.length + 1
  | [] => by simp [gset]
  | e :: r => by
    rw [gset]
    split
    · simp
    · have := yf9x (p := p) (g := g) (l := r); simp; omega
theorem y214 {ρ : MS} {a : Int} {bs : List Int} : ∀ i, (wrM ρ a bs i).gens.length ≤ ρ.gens.length + i
  | 0 => by simp [Go.Proofs.YtnckimioabkheaaGreat.wrM]
  | i + 1 => by
    have ih := y214 (ρ := ρ) (a := a) (bs := bs) i
    rw [Go.Proofs.YtnckimioabkheaaGreat.wrM]
    split
    · have h1 := yf9x (p := yovn (wrA a i)) (g := IntKind.u32.wrap ((fnd (yovn (wrA a i)) (setB (Go.Proofs.YtnckimioabkheaaGreat.wrM ρ a bs i) (yovn (wrA a i)) ((wrA a i).tmod 256).toNat (bs.getD i 0)).gens).getD 0 + 1)) (l := (setB (Go.Proofs.YtnckimioabkheaaGreat.wrM ρ a bs i) (yovn (wrA a i)) ((wrA a i).tmod 256).toNat (bs.getD i 0)).gens)
      simp only [bumpG, setB] at h1 ⊢
      omega
    · simp only [setB]; omega
theorem ybsz {ρ : MS} {a : Int} {bs : List Int} (i : Nat) : (wrM ρ a bs i).pages.length = ρ.pages.length := by
  have := congrArg List.length (ynn2 (μ := ρ) (a := a) (bs := bs) i)
  simpa [keysM] using this
section
variable {h0 h h' : H} {D : RD} {ρ : MS} {K : K1}
theorem yy0k {a : Int} {v : Value} {bs : List Int} (hm : RIn h0 D h ρ) (hsub : Sub h0 h) (hs : Srt ρ.pages) (hl : ρ.pages.length ≤ 100000) (hgl : ρ.gens.length + bs.length ≤ 100000) (ha : 0 ≤ a) (ha2 : a < 4294967296)
    (hv : Sl u8V 1 h0 v bs) (hall : allF ρ a bs.length 0 = true) (hk : ∀ D' h', RWent h0 D h D' (wrM ρ a bs bs.length) h' → K (.tuple #[]) h') :
    AM.Spec PG y4jv [ptr D.q 0, .int .u32 a, v] h K := by
  refine y9pf _ _ _ _ _ ?_
  unfold y0ld ydvr yckn yibv
  refine yo1k bs.length (fun i s h' => s = (ptr D.q 0, .int .u32 a, v, .int .i64 i) ∧ ∃ D', RWent h0 D h D' (wrM ρ a bs i) h') ⟨rfl, D, RWent.refl hm⟩ ?_
  rintro i s h' K' hi ⟨rfl, D', hw⟩ hk'
  have s1 := hw.sub0 hm hsub
  have hv1 := hv.mono s1
  by_cases hlt : i < bs.length
  · obtain ⟨e1, e2, e3, e4⟩ := ysm4 ha ha2 hall (i := i) (by omega)
    have hkeys : keysM (wrM ρ a bs i) = keysM ρ := ynn2 i
    have hsi := hs.wrM (a := a) (bs := bs) i
    have hli := ybsz (ρ := ρ) (a := a) (bs := bs) i
    have hgi := y214 (ρ := ρ) (a := a) (bs := bs) i
    rw [← hkeys] at e4
    obtain ⟨q, hq⟩ := yzro e4
    have hB := (yj0o hsi).2 ⟨q, hq⟩
    obtain ⟨hat, hak⟩ := yiee hB
    have hix := fun (K : Value → Prop) (u : Dm K) => hv1.ix1 (k := .i64) hlt (K := K) (u := u)
    have w0 : IntKind.u32.wrap (a + IntKind.u32.wrap (i : Int)) = wrA a i := rfl
    have w1 : IntKind.i64.wrap ((i : Int) + 1) = ((i + 1 : Nat) : Int) := by rw [w_i64 (by omega) (by omega)]; omega
    have hnext : wrM ρ a bs (i + 1) = if i = 0 ∨ (wrA a i).tmod 256 = 0 then bumpG (setB (wrM ρ a bs i) (yovn (wrA a i)) ((wrA a i).tmod 256).toNat bs[i]) (yovn (wrA a i)) else setB (wrM ρ a bs i) (yovn (wrA a i)) ((wrA a i).tmod 256).toNat bs[i] := by
      rw [wrM]; simp [List.getD_eq_getElem?_getD, hlt]
    have hmod : 0 ≤ (wrA a i).tmod 256 ∧ (wrA a i).tmod 256 < 256 := by
      rw [Int.tmod_eq_emod_of_nonneg e2]; omega
    simp (config := {dsimp := false}) [↓ywx8, ↓ycl7, ↓ydvt, ↓ybc9, hv1.ulen, hlt, w0]
    have eq : D.q = D'.q := hw.q.symm
    rw [eq]
    refine ⟨rfl, ym94 hw.mem.at_ (by omega) ?_⟩
    obtain ⟨c, m, hc, hc2, hvl, hcc, hmr⟩ := hw.mem.at_.l.ia hat
    have hfl := yr37 (l := (wrM ρ a bs i).pages) hw.mem.at_.l.1
    simp (config := {dsimp := false}) [↓yaek, ↓y9lj, yb3e hw.mem.at_.q, hix]
    generalize wrA a i = A at *
    generalize wrM ρ a bs i = ρi at *
    rw [hvl, s_ia]
    refine ⟨by omega, by omega, ?_⟩
    rw [Int.toNat_natCast, s_fa, s_iaA, w0]
    refine ⟨hmod.1, hmod.2, ?_⟩
    rw [ykdp, hcc]
    have hpos : 0 + atN ρi.pages (yovn A) * 258 + 2 + (A.tmod 256).toNat * 1 = atN ρi.pages (yovn A) * 258 + (2 + (A.tmod 256).toNat) := by omega
    have hbound : atN ρi.pages (yovn A) * 258 + (2 + (A.tmod 256).toNat) + 1 ≤ (ρi.pages.flatMap pgC).length := by
      rw [hfl]
      have : (atN ρi.pages (yovn A) + 1) * 258 ≤ ρi.pages.length * 258 := Nat.mul_le_mul_right _ hat
      omega
    refine ⟨hmr, rfl, rfl, by rw [hpos]; exact hbound, ?_⟩
    rw [hpos]
    have hset := hw.mem.setB hsi (x := bs[i]) (o := (A.tmod 256).toNat) hmr hat hak (by omega) hc
    have hw2 := hw.trans hset
    have s2 := hw2.sub0 hm hsub
    have eu : (Value.int IntKind.u8 bs[i]).cells.toList = [.int .u8 bs[i]] := rfl
    rw [eu]
    generalize upd h' c _ = h2 at *
    simp (config := {dsimp := false}) [↓y5i8, ysbf]
    have hb2 : (setB ρi (yovn A) (A.tmod 256).toNat bs[i]).gens.length ≤ 100000 := by simp only [setB]; omega
    have eq' : D'.q = D.q := hw.q
    have key : ∀ {E2 : RD} {h3 : H}, RWent h0 D h E2 (wrM ρ a bs (i + 1)) h3 → yyzr (ptr D'.q 0) (.int .u32 a) v (.int .i64 i) h3 (fun y0 y1 y2 y6 h => K' (y0, y1, y2, y6) h) (fun h => K (.tuple #[]) h) (fun h => K (.tuple #[]) h) := fun hw3 => by
      simp (config := {dsimp := false}) [↓yyzr, w1]
      exact hk' _ _ hlt ⟨by simp [eq'], _, hw3⟩
    have bump : i = 0 ∨ A.tmod 256 = 0 → AM.Spec PG yrlt [ptr D'.q 0, .int .u32 A] h2 fun v49 h => yyzr (ptr D'.q 0) (.int .u32 a) v (.int .i64 i) h (fun y0 y1 y2 y6 h => K' (y0, y1, y2, y6) h) (fun h => K (.tuple #[]) h) (fun h => K (.tuple #[]) h) := fun hc => by
      rw [if_pos hc] at hnext
      exact y0ro hset.mem s2 hb2 fun E3 h3 hw3 => key (E2 := E3) (by rw [hnext]; exact hw2.trans hw3)
    split
    · rename_i hi0
      refine ⟨rfl, ?_⟩
      simpa using bump (.inl hi0)
    · rename_i hi0
      split
      · rename_i hA0
        refine ⟨rfl, ?_⟩
        simpa using bump (.inr hA0)
      · rename_i hA0
        refine key (E2 := D') ?_
        rw [hnext, if_neg (by simp [hi0, hA0])]
        exact hw2
  · have hie : i = bs.length := by omega
    subst hie
    simp (config := {dsimp := false}) [↓ywx8, hv1.ulen]
    exact hk D' h' hw
theorem ylyc {a : Int} {v : Value} {bs : List Int} (hm : RIn h0 D h ρ) (hsub : Sub h0 h) (hs : Srt ρ.pages) (hl : ρ.pages.length ≤ 30000) (hgl : ρ.gens.length ≤ 30000) (hbl : bs.length < 1000000000) (ha : 0 ≤ a) (ha2 : a < 4294967296)
    (hv : Sl u8V 1 h0 v bs) (hk : ∀ D' h', RWent h0 D h D' (wrR ρ a 65536 0 bs) h' → K (.int .i64 (wrE ρ a 65536 0 bs)) h') :
    AM.Spec PG y3o4 [ptr D.q 0, .int .u32 a, v] h K := by
  refine y2cj _ _ _ _ _ ?_
  have hv1 := hv.mono hsub
  unfold wrR wrE at hk
  simp (config := {dsimp := false}) only [↓ybv8, ↓y5rf, hv1.ulen, s_gtr, s_if, decide_eq_true_eq]
  split
  · rename_i c'
    rw [if_pos c'] at hk
    exact hk D h (RWent.refl hm)
  rename_i c'
  rw [if_neg c'] at hk
  refine ⟨rfl, y7i1 hm.at_ hs (by omega) ha ha2 (by omega) (by omega) ?_⟩
  cases hall : allF ρ a bs.length 0 with
  | false =>
    rw [hall] at hk
    simp (config := {dsimp := false})
    exact hk D h (RWent.refl hm)
  | true =>
    rw [hall] at hk
    simp (config := {dsimp := false})
    refine ⟨by simp [hv1.box], yy0k hm hsub hs (by omega) (by omega) ha ha2 hv hall fun D' h' hw => ?_⟩
    exact hk D' h' hw
end
end Go.Proofs.YtnckimioabkheaaGreat

set_option linter.unusedSimpArgs false
set_option linter.unusedVariables false
set_option maxRecDepth 100000
namespace Go.Proofs.YtnckimioabkheaaGreat
open AM
def KB (ρ : MS) : Prop := ∀ p ∈ ρ.pages, 0 ≤ p.1 ∧ p.1 < 4294967296
def raddP (ρ : MS) (a perm : Int) : Nat → MS
  | 0 => ρ
  | i + 1 => { raddP ρ a perm i with pages := insP (raddP ρ a perm i).pages (pgA a i) (perm, yr1e), gens := gset (raddP ρ a perm i).gens (pgA a i) (IntKind.u32.wrap ((fnd (pgA a i) (raddP ρ a perm i).gens).getD 0 + 1)) }
def rmapM (ρ : MS) (a n perm : Int) : MS := if mapE ρ a n perm = 0 then raddP ρ a perm (yte2 a n).toNat else ρ
theorem yo36 {a n : Int} (ha : 0 ≤ a) (ha2 : a < 4294967296) (h0 : 0 ≤ n) (h1 : n < 4294967296) : yht4 a n = if 0 < n ∧ a % 256 = 0 ∧ a + (n + 255) / 256 * 256 ≤ 4294967296 then (n + 255) / 256 else -1 := by
  unfold yht4
  have e1 : IntKind.i64.wrap n = n := w_i64 (by omega) (by omega)
  have e2 : IntKind.i64.wrap a = a := w_i64 (by omega) (by omega)
  rw [e1, e2, w_i64 (x := n + 255) (by omega) (by omega), Int.tdiv_eq_ediv_of_nonneg (by omega), w_i64 (x := (n + 255) / 256) (by omega) (by omega), w_i64 (x := (n + 255) / 256 * 256) (by omega) (by omega), w_i64 (by omega) (by omega), Int.tmod_eq_emod_of_nonneg ha]
  by_cases hc : 0 < n ∧ a % 256 = 0 ∧ a + (n + 255) / 256 * 256 ≤ 4294967296
  · rw [if_pos hc, if_neg (by omega)]
  · rw [if_neg hc, if_pos (by omega)]
theorem rin {a m p : Int} (ha : 0 ≤ a) (ha2 : a < 4294967296) (hm : 0 ≤ m) (hm2 : m ≤ 16777216) (hp : 0 ≤ p ∧ p < 4294967296) : yp6c p a m = true ↔ inR a m p := by
  unfold yp6c inR
  have e1 : IntKind.i64.wrap p = p := w_i64 (by omega) (by omega)
  have e2 : IntKind.i64.wrap a = a := w_i64 (by omega) (by omega)
  have e3 : IntKind.i64.wrap (m * 256) = m * 256 := w_i64 (by omega) (by omega)
  have e4 : IntKind.i64.wrap (a + m * 256) = a + m * 256 := w_i64 (by omega) (by omega)
  have f1 : IntKind.u64.wrap p = p := w_u64 (by omega) (by omega)
  have f2 : IntKind.u64.wrap a = a := w_u64 (by omega) (by omega)
  have f3 : IntKind.u64.wrap (m * 256) = m * 256 := w_u64 (by omega) (by omega)
  have f4 : IntKind.u64.wrap (a + m * 256) = a + m * 256 := w_u64 (by omega) (by omega)
  rw [e1, e2, e3, e4, f1, f2, f3, f4]
  simp
def cntR (ρ : MS) (a m : Int) (i : Nat) : Nat := ((ρ.pages.take i).filter fun p => yp6c p.1 a m).length
theorem you2 {ρ : MS} {a perm : Int} : ∀ i, (raddP ρ a perm i).gens.length ≤ ρ.gens.length + i
  | 0 => by simp [raddP]
  | i + 1 => by
    have ih := you2 (ρ := ρ) (a := a) (perm := perm) i
    have h1 := yf9x (p := pgA a i) (g := IntKind.u32.wrap ((fnd (pgA a i) (raddP ρ a perm i).gens).getD 0 + 1)) (l := (raddP ρ a perm i).gens)
    simp only [raddP]
    omega
theorem ywmo {β : Type} {l : List (Int × β)} {p : Int} {x : β} : (insP l p x).length = l.length + 1 := by
  have := (ywfw (l := l) (p := p) (x := x)).length_eq
  simpa using this
theorem y58f {ρ : MS} {a perm : Int} : ∀ i, (raddP ρ a perm i).pages.length = ρ.pages.length + i
  | 0 => by simp [raddP]
  | i + 1 => by simp only [raddP, ywmo, y58f i]; omega
section
variable {h0 h h' : H} {D : RD} {ρ : MS} {K : K1}
theorem y6r5 {a m : Int} (hr : RAt D h ρ) (hl : ρ.pages.length ≤ 100000) (hk : K (.int .i64 (cntR ρ a m ρ.pages.length)) h) : AM.Spec PG y3y7 [ptr D.q 0, .int .u32 a, .int .i64 m] h K := by
  refine y5iw _ _ _ _ _ ?_
  simp (config := {dsimp := false}) [↓yrsc, ↓yukl, ↓ya01, ↓yjpk, ↓yygt]
  unfold yz03
  refine yo1k ρ.pages.length (fun i s h' => h' = h ∧ s = (ptr D.q 0, .int .u32 a, .int .i64 m, .int .i64 (cntR ρ a m i), .int .i64 i)) ⟨rfl, rfl⟩ ?_
  rintro i s h' K' hi ⟨rfl, rfl⟩ hk'
  by_cases hlt : i < ρ.pages.length
  · have hix := fun (K : Value → Prop) (u : Dm K) => hr.l.sl.ixf (k := .i64) (off := 0) hlt (yvs7 hlt) (K := K) (u := u)
    have w1 : IntKind.i64.wrap ((i : Int) + 1) = ((i + 1 : Nat) : Int) := by rw [w_i64 (by omega) (by omega)]; omega
    have hle : cntR ρ a m i ≤ i := by
      unfold cntR
      have h1 := List.length_filter_le (fun p : Int × Int × List Int => yp6c p.1 a m) (ρ.pages.take i)
      simp at h1; omega
    have hnext : cntR ρ a m (i + 1) = cntR ρ a m i + if yp6c ρ.pages[i].1 a m = true then 1 else 0 := by
      unfold cntR
      rw [List.take_succ_eq_append_getElem hlt, List.filter_append, List.length_append, List.filter_cons]
      split <;> simp
    have w2 : IntKind.i64.wrap ((cntR ρ a m i : Int) + 1) = ((cntR ρ a m i + 1 : Nat) : Int) := by rw [w_i64 (by omega) (by omega)]; omega
    simp (config := {dsimp := false}) [↓y3zw, yb3e hr.q, hr.l.sl.ulen, hlt, hix, w1, w2]
    rw [hnext] at hk'
    split
    · rename_i c
      rw [if_pos c] at hk'
      exact hk' _ _ hlt ⟨rfl, by simp⟩
    · rename_i c
      rw [if_neg c] at hk'
      exact hk' _ _ hlt ⟨rfl, by simp⟩
  · have hie : i = ρ.pages.length := by omega
    subst hie
    simp (config := {dsimp := false}) [↓y3zw, ↓yd4u, yb3e hr.q, hr.l.sl.ulen]
    exact hk
theorem yem5 {p perm : Int} {K : Value → Prop} {u : Dm K} : ysnr PG yezi [(0, .int .u32 p), (1, .int .i64 perm)] K u = K (.agg (pgC (p, perm, yr1e)).toArray) := by kernel_rfl
theorem yeqz {p perm : Int} {h : H} {K : K1} {u : Dm K} : ynqb PG yoza 1 [(0, .agg (pgC (p, perm, yr1e)).toArray)] h K u = u_new (pgC (p, perm, yr1e)) yezi .exact h fun b h => K (.slice (some ⟨b, 0, none⟩) 1 1) h := by kernel_rfl
theorem yqvg {h : H} {K : K1} {u : Dm K} : ynqb PG yoza 0 [] h K u = u_new [] yezi .exact h fun b h => K (.slice (some ⟨b, 0, none⟩) 0 0) h := by kernel_rfl
theorem yeqe {x : Int × Int × List Int} (h : x.2.2.length = 256) : (pgC x).length = 258 := by simp [pgC, h]
theorem ylbz : yr1e.length = 256 := List.length_replicate
end
end Go.Proofs.YtnckimioabkheaaGreat

set_option linter.unusedSimpArgs false
set_option linter.unusedVariables false
set_option maxRecDepth 100000
namespace Go.Proofs.YtnckimioabkheaaGreat
open AM
section
variable {h0 h h' : H} {D : RD} {ρ : MS} {K : K1}
theorem yd3z {p perm : Int} {k : Nat} {x1 x9 x10 : Value} {Kn : K6} {Kr : K1} {Ke1 : K5} {Ke0 : K0} (hm : RIn h0 D h ρ) (hsub : Sub h0 h) (hkl : k ≤ ρ.pages.length) (hl : ρ.pages.length ≤ 100000)
    (hk : ∀ D' h', RWent h0 D h D' { ρ with pages := ρ.pages.take k ++ [(p, perm, yr1e)] ++ ρ.pages.drop k } h' → Kn (ptr D.q 0) x1 (.int .i64 perm) x9 x10 (.int .u32 p) h') :
    yuie (ptr D.q 0) x1 (.int .i64 perm) x9 x10 (.int .u32 p) (.int .i64 k) h Kn Kr Ke1 Ke0 := by
  have hr := hm.at_
  have hq := hr.q
  have hsl := hr.l.sl
  have hcap := hr.l.cap
  have hz := hr.l.1
  unfold yuie
  simp (config := {dsimp := false}) only [s_nil, s_fa, y1rg]
  simp (config := {dsimp := false}) [yb3e hq]
  refine Sl.cut hsl hcap (.inl ⟨rfl, rfl⟩) (.inr ⟨_, rfl⟩) (Nat.zero_le _) hkl fun v67 s67 c67 => ?_
  rw [yem5]
  simp (config := {dsimp := false}) only [s_nil, s_fa, y1rg]
  simp (config := {dsimp := false}) [yb3e hq]
  refine Sl.cut hsl hcap (.inr ⟨_, rfl⟩) (.inl ⟨rfl, rfl⟩) hkl (Nat.le_refl _) fun v79 s79 c79 => ?_
  rw [List.take_of_length_le (Nat.le_refl _)] at s79
  simp only [List.drop_zero] at s67
  rw [yeqz]
  refine ⟨fun _ _ _ => trivial, ?_⟩
  rw [yqvg]
  intro c hc2 hcn
  rw [yeqz]
  refine ⟨fun _ _ _ => trivial, ?_⟩
  have s1 : Sub h (upd h c (.cells [] yezi .exact)) := Sub.new hcn
  have hlen : yr1e.length = 256 := ylbz
  refine OL.app (OL.empty hc2 (by simp)) (s67.mono s1) (by omega) (by simp; omega) (by simp; omega) fun v1 h2 b1 o1 c1 f1 => ?_
  have k1 : Sub h h2 ∧ ∀ d, b1 = some d → h d = none := by
    refine ⟨fun d o hd => c1.1 d o (s1 d o hd) (fun he => by cases he; rw [hcn] at hd; cases hd), fun d hd => ?_⟩
    rcases c1.2 d hd with h5 | h5
    · cases h5; exact hcn
    · rw [ynej] at h5; exact h5.2.2
  rw [List.nil_append] at o1
  simp (config := {dsimp := false}) [yb3e (k1.1 _ _ hq)]
  rw [yeqz]
  refine OL.push (m := [(p, perm, yr1e)]) o1 (by intro x hx; simp only [List.mem_singleton] at hx; subst hx; exact yeqe hlen) (by omega) (by simp; omega) (by simp; omega) (fun v2 h3 b2 o2 c2 => ?_) (by simp) rfl
  have k2 := c2.sub k1.1 k1.2
  simp (config := {dsimp := false}) [yb3e (k2.1 _ _ hq)]
  refine OL.app o2 (s79.mono k2.1) (by omega) (by simp; omega) (by simp; omega) fun v3 h4 b3 o3 c3 f3 => ?_
  have k3 := c3.sub k2.1 k2.2
  have hq4 := k3.1 _ _ hq
  have hcell : v3.cells = #[v3] := by
    obtain ⟨_, ⟨_, _, rfl⟩ | ⟨_, _, _, _, rfl, _⟩⟩ := o3 <;> rfl
  rw [s_nil, s_fa, ypi4 (off := 0 + 1) hq4 (by decide) o3.sl.box hcell (by simp) rfl]
  have hnq : b3 ≠ some D.q := fun he => by rw [k3.2 _ he] at hq; cases hq
  have hr4 := hr.sub k3.1
  refine hk ⟨D.q, v3, b3, D.vg, D.bg⟩ _ ⟨⟨⟨?_, ?_, ?_⟩, fun d hd => ?_⟩, rfl, fun d o hd hdo => ?_, fun d hd => ?_⟩
  · rw [yy0e]; rfl
  · exact o3.keep fun d hd => yrkk _ _ fun he => hnq (he ▸ hd)
  · exact hr4.g.keep fun d hd => yrkk _ _ fun he => hr4.gq (he ▸ hd)
  · rcases hd with hd | hd | hd
    · exact hm.new d (.inl hd)
    · exact Sub.none hsub (k3.2 d hd)
    · exact hm.new d (.inr (.inr hd))
  · rw [yrkk _ _ fun he => hd (.inl he)]; exact k3.1 d o hdo
  · rcases hd with hd | hd | hd
    · exact .inl (.inl hd)
    · exact .inr (k3.2 d hd)
    · exact .inl (.inr (.inr hd))
theorem yufg {a : Int} {i : Nat} (hi : i ≤ 16777216) : IntKind.u32.wrap (a + IntKind.u32.wrap (IntKind.i64.wrap (256 * (i : Int)))) = pgA a i := by
  unfold pgA
  rw [w_i64 (by omega) (by omega)]
  congr 3
  omega
theorem y5ho {a : Int} {i : Nat} {m : Int} (ha : 0 ≤ a) (hal : a % 256 = 0) (hm : a + m * 256 ≤ 4294967296) (hi : (i : Int) < m) : pgA a i = a + 256 * i ∧ yovn (pgA a i) = pgA a i := by
  have h1 : IntKind.u32.wrap ((i : Int) * 256) = i * 256 := w_u32 (by omega) (by omega)
  have e : pgA a i = a + 256 * i := by
    unfold pgA
    rw [h1, w_u32 (by omega) (by omega)]; omega
  refine ⟨e, ?_⟩
  rw [e, ydjw (by omega) (by omega)]
  omega
theorem yqej {a n perm : Int} (hm : RIn h0 D h ρ) (hsub : Sub h0 h) (hkb : KB ρ) (hz : MSz ρ) (hgl : ρ.gens.length ≤ 20000) (ha : 0 ≤ a) (ha2 : a < 4294967296) (hn : 0 ≤ n) (hn2 : n < 4294967296)
    (hk : ∀ D' h', RWent h0 D h D' (rmapM ρ a n perm) h' → K (.int .i64 (mapE ρ a n perm)) h') :
    AM.Spec PG y0iw [ptr D.q 0, .int .u32 a, .int .u32 n, .int .i64 perm] h K := by
  refine yq2p _ _ _ _ _ _ ?_
  have hst := yo36 ha ha2 hn hn2
  have hmany := y56w (a := a) hn hn2
  have hgood := yb4q ha ha2 hn hn2
  obtain ⟨z1, z2⟩ := hz
  have refl := RWent.refl hm
  simp (config := {dsimp := false}) [↓ydgw, ↓yf2f]
  by_cases hS : 0 < n ∧ a % 256 = 0 ∧ a + (n + 255) / 256 * 256 ≤ 4294967296
  case neg =>
    have he : mapE ρ a n perm = 1 := by unfold mapE; rw [if_pos (.inl fun hc => hS (hgood.1 hc))]
    rw [if_neg hS] at hst
    have hM : rmapM ρ a n perm = ρ := by simp [rmapM, he]
    rw [he, hM] at hk
    rw [if_pos (by simp [hst])]
    exact hk D h refl
  rw [if_pos hS] at hst
  obtain ⟨m, hmm⟩ : ∃ m : Nat, (n + 255) / 256 = m := ⟨((n + 255) / 256).toNat, by omega⟩
  rw [hmm] at hst hmany hS
  rw [hst]
  by_cases hP : perm < 0 ∨ 7 < perm
  case pos =>
    have he : mapE ρ a n perm = 1 := by unfold mapE; rw [if_pos (.inr hP)]
    have hM : rmapM ρ a n perm = ρ := by simp [rmapM, he]
    rw [he, hM] at hk
    rw [if_pos (by omega)]
    exact hk D h refl
  rw [if_neg (by omega)]
  have hE : mapE ρ a n perm = if ∃ p ∈ ρ.pages, inR a m p.1 then 5 else if IntKind.u64.wrap (IntKind.i64.wrap (ρ.budget - ρ.pages.length)) < m then 6 else 0 := by
    unfold mapE
    rw [if_neg (fun hc => by
      rcases hc with hc | hc
      · exact hc (hgood.2 (by rw [hmm]; exact hS))
      · exact hP hc), hmany]
  refine ⟨rfl, y6r5 hm.at_ (by omega) ?_⟩
  have hcnt : 0 < cntR ρ a m ρ.pages.length ↔ ∃ p ∈ ρ.pages, inR a m p.1 := by
    unfold cntR
    rw [List.take_length, List.length_pos_iff, ne_eq, List.filter_eq_nil_iff]
    simp only [Classical.not_forall, Classical.not_not]
    constructor
    · rintro ⟨p, hp, hq⟩
      exact ⟨p, hp, (rin ha ha2 (by omega) (by omega) (hkb p hp)).1 hq⟩
    · rintro ⟨p, hp, hq⟩
      exact ⟨p, hp, (rin ha ha2 (by omega) (by omega) (hkb p hp)).2 hq⟩
  by_cases hT : ∃ p ∈ ρ.pages, inR a m p.1
  case pos =>
    rw [if_pos hT] at hE
    have hM : rmapM ρ a n perm = ρ := by simp [rmapM, hE]
    rw [hE, hM] at hk
    have := hcnt.2 hT
    simp (config := {dsimp := false}) [this]
    exact hk D h refl
  rw [if_neg hT] at hE
  have hc0 : ¬ 0 < cntR ρ a m ρ.pages.length := fun hc => hT (hcnt.1 hc)
  have wb : IntKind.i64.wrap (ρ.budget - ρ.pages.length) = ρ.budget - ρ.pages.length := w_i64 (by omega) (by omega)
  have wu : IntKind.u64.wrap (ρ.budget - ρ.pages.length) = ρ.budget - ρ.pages.length := w_u64 (by omega) (by omega)
  rw [wb, wu] at hE
  simp (config := {dsimp := false}) [hc0, ↓yo03, ↓ywd8, ↓y4iv, ↓ynev, yb3e hm.at_.q, hm.at_.l.sl.ulen, wb]
  by_cases hF : ρ.budget - ρ.pages.length < m
  case pos =>
    rw [if_pos hF] at hE
    have hM : rmapM ρ a n perm = ρ := by simp [rmapM, hE]
    rw [hE, hM] at hk
    rw [if_pos hF]
    exact hk D h refl
  rw [if_neg hF] at hE
  rw [if_neg hF]
  have hM : rmapM ρ a n perm = raddP ρ a perm m := by simp [rmapM, hE, hmany]
  rw [hE, hM] at hk
  simp (config := {dsimp := false}) [↓y6vu, ↓yptq, ↓y1a7]
  unfold ysf2
  refine yo1k m (fun i s h' => s = (ptr D.q 0, .int .u32 a, .int .i64 perm, .int .i64 m, .int .i64 i) ∧ ∃ D', RWent h0 D h D' (raddP ρ a perm i) h') ⟨rfl, D, refl⟩ ?_
  rintro i s h' K' hi ⟨rfl, D', hw⟩ hk'
  by_cases hlt : i < m
  · have w1 : IntKind.i64.wrap ((i : Int) + 1) = ((i + 1 : Nat) : Int) := by rw [w_i64 (by omega) (by omega)]; omega
    have hpa := yufg (a := a) (i := i) (by omega)
    have hbp := (y5ho (i := i) ha hS.2.1 hS.2.2 (by omega)).2
    have hli := y58f (ρ := ρ) (a := a) (perm := perm) i
    have hgi := you2 (ρ := ρ) (a := a) (perm := perm) i
    have s1 := hw.sub0 hm hsub
    simp (config := {dsimp := false}) [↓ya8w, ↓yqng, ↓y7xv, ↓yz92, hlt, hpa]
    have eq : D.q = D'.q := hw.q.symm
    rw [eq]
    refine ⟨rfl, ym94 hw.mem.at_ (by omega) ?_⟩
    rw [hbp]
    simp (config := {dsimp := false}) [↓ykw3, hpa]
    refine yd3z hw.mem s1 (ypas _ _) (by omega) fun E2 h2 hw2 => ?_
    have s2 := (hw.trans hw2).sub0 hm hsub
    simp (config := {dsimp := false}) [↓yi78]
    have eq2 : D'.q = E2.q := hw2.q.symm
    rw [eq2]
    refine ⟨rfl, y0ro hw2.mem s2 (by show (raddP ρ a perm i).gens.length ≤ 100000; omega) fun E3 h3 hw3 => ?_⟩
    rw [hbp] at hw3
    simp (config := {dsimp := false}) [↓ysya, w1]
    exact hk' _ _ hlt ⟨by simp [eq, eq2], E3, (hw.trans hw2).trans hw3⟩
  · have hie : i = m := by omega
    subst hie
    simp (config := {dsimp := false}) [↓ya8w, ↓yysk]
    exact hk D' h' hw
end
end Go.Proofs.YtnckimioabkheaaGreat

set_option linter.unusedSimpArgs false
set_option linter.unusedVariables false
set_option maxRecDepth 100000
set_option maxHeartbeats 4000000
namespace Go.Proofs.YtnckimioabkheaaGreat
open AM
structure ROk (ρ : MS) : Prop where
  kb : KB ρ
  z : MSz ρ
  srt : Srt ρ.pages
theorem y8hf {a : Int} {i : Nat} : 0 ≤ pgA a i ∧ pgA a i < 4294967296 := ⟨yd12, yina⟩
theorem yhye {ρ : MS} {a perm : Int} {x : Int × Int × List Int} : ∀ {i : Nat}, x ∈ (raddP ρ a perm i).pages → x ∈ ρ.pages ∨ ∃ j, j < i ∧ x = (pgA a j, perm, yr1e)
  | 0, h => .inl h
  | i + 1, h => by
    simp only [raddP] at h
    rcases yqs0.1 h with rfl | h
    · exact .inr ⟨i, by omega, rfl⟩
    · rcases yhye h with h | ⟨j, hj, rfl⟩
      · exact .inl h
      · exact .inr ⟨j, by omega, rfl⟩
theorem ypb8 {ρ : MS} {a perm : Int} {m : Int} (hs : Srt ρ.pages) (ha : 0 ≤ a) (hal : a % 256 = 0) (hm : a + m * 256 ≤ 4294967296) (hn : ∀ p ∈ ρ.pages, ¬ (a ≤ p.1 ∧ p.1 < a + m * 256)) : ∀ i : Nat, (i : Int) ≤ m → Srt (raddP ρ a perm i).pages
  | 0, _ => hs
  | i + 1, hi => by
    have hi' : (i : Int) < m := by omega
    simp only [raddP]
    refine y22m (ypb8 hs ha hal hm hn i (by omega)) fun e he => ?_
    have e1 := (y5ho (i := i) ha hal hm hi').1
    rcases yhye he with he | ⟨j, hj, rfl⟩
    · intro hq
      exact hn e he (by rw [hq, e1]; omega)
    · have e2 := (y5ho (i := j) ha hal hm (by omega)).1
      show pgA a j ≠ pgA a i
      omega
theorem ykmf {ρ : MS} {a perm : Int} : ∀ i, (raddP ρ a perm i).budget = ρ.budget
  | 0 => rfl
  | i + 1 => by simp only [raddP, ykmf i]
theorem ROk.map {ρ : MS} (h : ROk ρ) {a n perm : Int} (ha : 0 ≤ a) (ha2 : a < 4294967296) (hn : 0 ≤ n) (hn2 : n < 4294967296) : ROk (rmapM ρ a n perm) := by
  unfold rmapM
  split
  · rename_i he
    have hmany := y56w (a := a) hn hn2
    have hgood := yb4q ha ha2 hn hn2
    unfold mapE at he
    split at he
    · cases he
    rename_i c1
    split at he
    · cases he
    rename_i c2
    split at he
    · cases he
    rename_i c3
    have hg : ywc5 a n = true := Classical.byContradiction fun hc => c1 (.inl hc)
    obtain ⟨g1, g2, g3⟩ := hgood.1 hg
    obtain ⟨z1, z2⟩ := h.z
    have wb : IntKind.i64.wrap (ρ.budget - ρ.pages.length) = ρ.budget - ρ.pages.length := w_i64 (by omega) (by omega)
    have wu : IntKind.u64.wrap (ρ.budget - ρ.pages.length) = ρ.budget - ρ.pages.length := w_u64 (by omega) (by omega)
    rw [wb, wu] at c3
    rw [hmany] at c2 c3 ⊢
    obtain ⟨m, hm⟩ : ∃ m : Nat, (n + 255) / 256 = m := ⟨((n + 255) / 256).toNat, by omega⟩
    rw [hm] at c2 c3 g3 ⊢
    rw [Int.toNat_natCast]
    refine ⟨fun p hp => ?_, ⟨?_, by rw [ykmf]; exact z2⟩, ypb8 (m := m) h.srt ha g2 g3 (fun p hp hc => c2 ⟨p, hp, ?_⟩) m (Int.le_refl _)⟩
    · rcases yhye hp with hp | ⟨j, _, rfl⟩
      · exact h.kb p hp
      · exact y8hf
    · rw [ykmf, y58f]; omega
    · exact (rin ha ha2 (by omega) (by omega) (h.kb p hp)).1 (by
        unfold yp6c
        have hk := h.kb p hp
        rw [w_i64 (x := p.1) (by omega) (by omega), w_i64 (x := a) (by omega) (by omega), w_i64 (x := (m : Int) * 256) (by omega) (by omega), w_i64 (by omega) (by omega)]
        simp; omega)
  · exact h
theorem ymli {ρ ρ' : MS} (h : keysM ρ' = keysM ρ) (hk : KB ρ) : KB ρ' := fun p hp => by
  have : p.1 ∈ keysM ρ' := List.mem_map.2 ⟨p, hp, rfl⟩
  rw [h] at this
  obtain ⟨q, hq, e⟩ := List.mem_map.1 this
  rw [← e]; exact hk q hq
theorem ROk.wr {ρ : MS} (h : ROk ρ) {a most need : Int} {bs : List Int} : ROk (wrR ρ a most need bs) :=
  ⟨ymli yk6i h.kb, h.z.wr, h.srt.keys yk6i⟩
theorem ymje {ρ : MS} {a n perm : Int} (hn : 0 ≤ n) (hn2 : n < 4294967296) : (rmapM ρ a n perm).gens.length ≤ ρ.gens.length + ((n + 255) / 256).toNat := by
  unfold rmapM
  split
  · rw [y56w hn hn2]; exact you2 _
  · omega
theorem yiqb {ρ : MS} {a most need : Int} {bs : List Int} : (wrR ρ a most need bs).gens.length ≤ ρ.gens.length + bs.length := by
  unfold wrR
  split
  · exact y214 _
  · omega
section
variable {h0 h h' : H} {D : RD} {ρ : MS} {K : K1}
theorem RAt.other (hr : RAt D h ρ) {b : Nat} {cs : List Value} {E : TypeId} {m : AM.Own} (hb : h b = some (.cells cs E m)) (h1 : E ≠ yxex) (h2 : E ≠ yezi) (h3 : E ≠ yrli) : ¬ ROwn D b := by
  rintro (rfl | hc | hc)
  · have := hr.q
    rw [hb] at this
    simp only [Option.some.injEq, AObj.cells.injEq] at this
    exact h1 this.2.1
  · obtain ⟨_, ⟨_, hx, _⟩ | ⟨c', m', hx, _, _, h4, _⟩⟩ := hr.l
    · rw [hx] at hc; cases hc
    · rw [hx] at hc; cases hc
      rw [hb] at h4
      simp only [Option.some.injEq, AObj.cells.injEq] at h4
      exact h2 h4.2.1
  · obtain ⟨_, ⟨_, hx, _⟩ | ⟨c', m', hx, _, _, h4, _⟩⟩ := hr.g
    · rw [hx] at hc; cases hc
    · rw [hx] at hc; cases hc
      rw [hb] at h4
      simp only [Option.some.injEq, AObj.cells.injEq] at h4
      exact h3 h4.2.1
theorem RIn.over (hm : RIn h0 D h ρ) {b : Nat} {q : AObj} (hb : ¬ ROwn D b) : RIn h0 D (upd h b q) ρ := ⟨hm.at_.keep fun c hc => yrkk _ _ fun he => hb (he ▸ hc), hm.new⟩
theorem y2g0.fr {v : Value} (hf : y2g0 h v) (hr : RAt D h ρ) (hfr : Fr (ROwn D) h h') : y2g0 h' v := by
  obtain ⟨f, q, o, e, h1, h2, h3⟩ := hf
  exact ⟨f, q, o, e, hfr _ _ (hr.other h1 (by decide) (by decide) (by decide)) h1, hfr _ _ (hr.other h2 (by decide) (by decide) (by decide)) h2, hfr _ _ (hr.other h3 (by decide) (by decide) (by decide)) h3⟩
theorem y2g0.over {v : Value} (hf : y2g0 h v) {b : Nat} {cs : List Value} {q : AObj} {m : AM.Own} (hb : h b = some (.cells cs yb54 m)) : y2g0 (upd h b q) v := by
  obtain ⟨f, q', o, e, h1, h2, h3⟩ := hf
  have ne : ∀ {c : Nat} {cs' : List Value} {E : TypeId} {m' : AM.Own}, h c = some (.cells cs' E m') → E ≠ yb54 → c ≠ b := fun hc hE he => by
    rw [he, hb] at hc
    simp only [Option.some.injEq, AObj.cells.injEq] at hc
    exact hE hc.2.1.symm
  exact ⟨f, q', o, e, (yrkk _ _ (ne h1 (by decide))).trans h1, (yrkk _ _ (ne h2 (by decide))).trans h2, (yrkk _ _ (ne h3 (by decide))).trans h3⟩
end
structure RS1 (h0 h : H) (D : RD) (ρ : MS) (b5 b6 b7 bm : Nat) (vs : Value) (C : MC) : Prop where
  mem : RIn h0 D h ρ
  ok : ROk ρ
  sub : Sub h0 h
  c5 : h b5 = some (.cells [.int .u32 4096, vs] yr7r .exact)
  c6 : h b6 = some (.cells [.bool false, nilV, nilV] ysrv .exact)
  c7 : h b7 = some (.cells [nilV, nilV, nilV, nilV, nilV, nilV] y5c0 .exact)
  cm : h bm = some (.cells C.cells yb54 .exact)
  n0 : h0 bm = none
  co : C.Ok
  q : C.q = ptr D.q 0
  f : y2g0 h C.f
theorem RIn.sub {h0 h h' : H} {D : RD} {ρ : MS} (hm : RIn h0 D h ρ) (hs : Sub h h') : RIn h0 D h' ρ := ⟨hm.at_.sub hs, hm.new⟩
section
variable {h0 h h' : H} {D D' : RD} {ρ ρ' : MS} {b5 b6 b7 bm : Nat} {vs : Value} {C C' : MC}
theorem RS1.went (r : RS1 h0 h D ρ b5 b6 b7 bm vs C) (w : RWent h0 D h D' ρ' h') (ho : ROk ρ') : RS1 h0 h' D' ρ' b5 b6 b7 bm vs C :=
  ⟨w.mem, ho, w.sub0 r.mem r.sub, w.fr _ _ (r.mem.at_.other r.c5 (by decide) (by decide) (by decide)) r.c5, w.fr _ _ (r.mem.at_.other r.c6 (by decide) (by decide) (by decide)) r.c6,
   w.fr _ _ (r.mem.at_.other r.c7 (by decide) (by decide) (by decide)) r.c7, w.fr _ _ (r.mem.at_.other r.cm (by decide) (by decide) (by decide)) r.cm, r.n0, r.co, by rw [r.q, w.q], r.f.fr r.mem.at_ w.fr⟩
theorem RS1.grow (r : RS1 h0 h D ρ b5 b6 b7 bm vs C) (hs : Sub h h') : RS1 h0 h' D ρ b5 b6 b7 bm vs C :=
  ⟨r.mem.sub hs, r.ok, r.sub.trans hs, hs _ _ r.c5, hs _ _ r.c6, hs _ _ r.c7, hs _ _ r.cm, r.n0, r.co, r.q, r.f.sub hs⟩
theorem RS1.set (r : RS1 h0 h D ρ b5 b6 b7 bm vs C) (ho : C'.Ok) (hq : C'.q = C.q) (hf : C'.f = C.f) : RS1 h0 (upd h bm (.cells C'.cells yb54 .exact)) D ρ b5 b6 b7 bm vs C' := by
  have hn := r.mem.at_.other r.cm (by decide) (by decide) (by decide)
  have ne : ∀ {c : Nat} {cs' : List Value} {E : TypeId} {m' : AM.Own}, h c = some (.cells cs' E m') → E ≠ yb54 → c ≠ bm := fun hc hE he => by
    rw [he, r.cm] at hc
    simp only [Option.some.injEq, AObj.cells.injEq] at hc
    exact hE hc.2.1.symm
  exact ⟨r.mem.over hn, r.ok, Sub.upd r.sub r.n0, (yrkk _ _ (ne r.c5 (by decide))).trans r.c5, (yrkk _ _ (ne r.c6 (by decide))).trans r.c6, (yrkk _ _ (ne r.c7 (by decide))).trans r.c7,
    yy0e _ _ _, r.n0, ho, by rw [hq, r.q], by rw [hf]; exact r.f.over r.cm⟩
theorem RS1.base (r : RS1 h0 h D ρ b5 b6 b7 bm vs C) {q : Nat} {cs : List Value} {m : AM.Own} (hq : h q = some (.cells cs yoj6 m)) : RS1 (upd h0 q (.cells cs yoj6 m)) h D ρ b5 b6 b7 bm vs C := by
  have hn := r.mem.at_.other hq (by decide) (by decide) (by decide)
  refine ⟨⟨r.mem.at_, fun b hb => ?_⟩, r.ok, fun b x hb => ?_, r.c5, r.c6, r.c7, r.cm, ?_, r.co, r.q, r.f⟩
  · have hbq : b ≠ q := fun he => hn (by rw [← he]; exact hb)
    rw [yrkk _ _ hbq]; exact r.mem.new b hb
  · by_cases hbq : b = q
    · subst hbq; rw [yy0e] at hb; rw [hq]; exact hb
    · rw [yrkk _ _ hbq] at hb; exact r.sub _ _ hb
  · have hbq : bm ≠ q := fun he => by
      have hc := r.cm
      rw [he, hq] at hc
      simp only [Option.some.injEq, AObj.cells.injEq] at hc
      exact absurd hc.2.1 (by decide)
    rw [yrkk _ _ hbq]; exact r.n0
theorem RS1.less {q : Nat} {o : AObj} (r : RS1 (upd h0 q o) h D ρ b5 b6 b7 bm vs C) (h0q : h0 q = none) : RS1 h0 h D ρ b5 b6 b7 bm vs C :=
  ⟨⟨r.mem.at_, fun b hb => by
    have := r.mem.new b hb
    rw [ynej] at this
    exact this.2.2⟩, r.ok, (Sub.new h0q).trans r.sub, r.c5, r.c6, r.c7, r.cm, by
    have := r.n0
    rw [ynej] at this
    exact this.2.2, r.co, r.q, r.f⟩
theorem MC.set_flo {c : MC} (h : c.Ok) {v : Int} : c.cells.set 169 (.int .u32 v) = { c with flo := v }.cells := MC.set_r (i := 5) (c' := { c with flo := v }) h ⟨rfl, rfl, rfl, rfl, rfl, rfl⟩ rfl
theorem yz7j {k : Nat} {least a n p : Int} {vb : Value} {bs : List Int} {segs : List Sg} {Kn : K6} {Kr : K2} {Ke0 : K4}
    (r : RS1 h0 h D ρ b5 b6 b7 bm vs C) (hv : Sl sgC 4 h0 vs segs) (hk : k < segs.length) (hl : segs.length ≤ 1000) (hs : segs[k] = (a, n, p, vb)) (hb : Sl u8V 1 h0 vb bs) (hbl : bs.length ≤ 5000)
    (hgl : ρ.gens.length ≤ 10000) (ha : 0 ≤ a) (ha2 : a < 2147475456) (hn : 0 ≤ n) (hn2 : n < 65536) (hle : least < a) (hlr : -9223372036854775808 ≤ least)
    (hk1 : ∀ h', Sub h0 h' → mapE ρ a n p ≠ 0 → Kr (.pointer none) (.int .i64 (mapE ρ a n p)) h')
    (hk2 : ∀ D' h' C', C' = { C with flo := (a + n + 255) / 256 * 256 } → RS1 h0 h' D' (wrR (rmapM ρ a n p) a 65536 0 bs) b5 b6 b7 bm vs C' → Kn (ptr b5 0) (ptr b6 0) (ptr b7 0) (ptr bm 0) (.int .i64 a) (.int .i64 ((k : Int) + 1)) h') :
    ybxa (ptr b5 0) (ptr b6 0) (ptr b7 0) (ptr bm 0) (.int .i64 least) (.int .i64 k) h Kn Kr Ke0 := by
  have hix := fun (K : Value → Prop) (u : Dm K) => (hv.mono r.sub).ixA (k := .i64) hk (K := K) (u := u)
  rw [hs] at hix
  obtain ⟨ab, nb, cb, rfl⟩ := Sl.form hb
  simp only [sgC] at hix
  have l0 : C.cells[0]? = some (ptr D.q 0) := by rw [MC.at_0, r.q]
  simp (config := {dsimp := false}) [↓ybxa, ↓y7ew, ↓y4w5, ↓yiac, yb3e r.c5, (hv.mono r.sub).ulen, hk, hix]
  intro b _ hbb
  have r1 := r.grow (Sub.new (o := .cells [.int .u32 a, .int .u32 n, .int .i64 p, .slice ab nb cb] yhas .exact) hbb)
  have hc := yy0e h b (.cells [.int .u32 a, .int .u32 n, .int .i64 p, .slice ab nb cb] yhas .exact)
  generalize upd h b _ = h1 at *
  simp (config := {dsimp := false}) [↓y4fd, ↓yuof, yb3e r1.cm, yb3e hc, l0]
  refine ⟨rfl, yqej r1.mem r1.sub r.ok.kb r.ok.z (by omega) ha (by omega) hn (by omega) fun E2 h2 w2 => ?_⟩
  have r2 := r1.went w2 (r.ok.map ha (by omega) hn (by omega))
  have hc2 := w2.fr _ _ (r1.mem.at_.other hc (by decide) (by decide) (by decide)) hc
  by_cases he : mapE ρ a n p = 0
  case neg =>
    simp (config := {dsimp := false}) [↓y03n, he]
    exact hk1 _ r2.sub he
  have l2 : C.cells[0]? = some (ptr E2.q 0) := by rw [MC.at_0, r2.q]
  simp (config := {dsimp := false}) [↓y03n, ↓yclc, ↓ytq5, he, yb3e r2.cm, yb3e hc2, l2]
  have hg2 := ymje (ρ := ρ) (a := a) (perm := p) hn (show n < 4294967296 by omega)
  have hz2 := r2.ok.z
  refine ⟨rfl, ylyc r2.mem r2.sub r2.ok.srt (by obtain ⟨z1, z2⟩ := hz2; omega) (by omega) (by omega) ha (by omega) hb fun E3 h3 w3 => ?_⟩
  have r3 := r2.went w3 r2.ok.wr
  have hc3 := w3.fr _ _ (r2.mem.at_.other hc2 (by decide) (by decide) (by decide)) hc2
  have q1 : IntKind.i64.wrap a = a := w_i64 (by omega) (by omega)
  have q2 : IntKind.i64.wrap n = n := w_i64 (by omega) (by omega)
  have q3 : IntKind.i64.wrap (a + n) = a + n := w_i64 (by omega) (by omega)
  have q4 : IntKind.i64.wrap (a + n + 255) = a + n + 255 := w_i64 (by omega) (by omega)
  have q5 : IntKind.i64.wrap ((a + n + 255) / 256) = (a + n + 255) / 256 := w_i64 (by omega) (by omega)
  have q6 : IntKind.i64.wrap ((a + n + 255) / 256 * 256) = (a + n + 255) / 256 * 256 := w_i64 (by omega) (by omega)
  have q7 : IntKind.u32.wrap ((a + n + 255) / 256 * 256) = (a + n + 255) / 256 * 256 := w_u32 (by omega) (by omega)
  have q8 : IntKind.i64.wrap ((k : Int) + 1) = (k : Int) + 1 := w_i64 (by omega) (by omega)
  have q9 : Int.tdiv (a + n + 255) 256 = (a + n + 255) / 256 := Int.tdiv_eq_ediv_of_nonneg (by omega)
  have hlen := MC.len r3.co
  simp (config := {dsimp := false}) [↓y343, yb3e hc3, ha2, q1, q2, q3, q4, q5, q6, q7, q9, hle]
  rw [r3.cm]
  refine ⟨by decide, by omega, ?_⟩
  rw [MC.set_flo r3.co]
  simp (config := {dsimp := false}) [↓yvtw, q8]
  exact hk2 E3 _ _ rfl (r3.set ⟨r3.co.x, r3.co.t⟩ rfl rfl)
end
theorem yeag {ρ : MS} {a n p most need : Int} {bs : List Int} (hn : 0 ≤ n) (hn2 : n < 4294967296) : (wrR (rmapM ρ a n p) a most need bs).gens.length ≤ ρ.gens.length + ((n + 255) / 256).toNat + bs.length := by
  have h1 := yiqb (ρ := rmapM ρ a n p) (a := a) (most := most) (need := need) (bs := bs)
  have h2 := ymje (ρ := ρ) (a := a) (perm := p) hn hn2
  omega
section
variable {h0 h : H} {D : RD} {b5 b6 b7 bm : Nat} {vs vb vd : Value} {C : MC}
theorem yh2a {p : Int} {bs data : List Int} {ρ0 ρ1 ρ2 : MS} {Kn : K4} {Kr : K2} (r : RS1 h0 h D ρ0 b5 b6 b7 bm vs { C with flo := 2147475456 })
    (hv : Sl sgC 4 h0 vs [(4096, 1024, p, vb), (65536, 512, 3, vd)]) (hb : Sl u8V 1 h0 vb bs) (hd : Sl u8V 1 h0 vd data) (hbl : bs.length ≤ 1024) (hdl : data.length ≤ 512) (hgl : ρ0.gens.length = 0)
    (e1 : wrR (rmapM ρ0 4096 1024 p) 4096 65536 0 bs = ρ1) (e2 : wrR (rmapM ρ1 65536 512 3) 65536 65536 0 data = ρ2)
    (hk1 : ∀ e h', e ≠ 0 → (mapE ρ0 4096 1024 p = 0 → mapE ρ1 65536 512 3 = 0 → False) → Sub h0 h' → Kr (.pointer none) (.int .i64 e) h')
    (hk2 : ∀ D' h', RS1 h0 h' D' ρ2 b5 b6 b7 bm vs { C with flo := 66048 } → Kn (ptr b5 0) (ptr b6 0) (ptr b7 0) (ptr bm 0) h') :
    yj9m (ptr b5 0) (ptr b6 0) (ptr b7 0) (ptr bm 0) (.int .i64 (-1)) h Kn Kr := by
  unfold yj9m yag9 yfqr
  obtain ⟨J, hJ0, hJ1, hJ2⟩ : ∃ J : Nat → Int × MS × Int, J 0 = (-1, ρ0, 2147475456) ∧ J 1 = (4096, ρ1, 5120) ∧ J 2 = (65536, ρ2, 66048) := ⟨fun | 0 => (-1, ρ0, 2147475456) | 1 => (4096, ρ1, 5120) | _ => (65536, ρ2, 66048), rfl, rfl, rfl⟩
  have hg1 : ρ1.gens.length ≤ 2000 := by
    have := yeag (ρ := ρ0) (a := 4096) (n := 1024) (p := p) (most := 65536) (need := 0) (bs := bs) (by decide) (by decide)
    rw [e1] at this
    omega
  refine yo1k 2 (fun i s h' => s = (ptr b5 0, ptr b6 0, ptr b7 0, ptr bm 0, .int .i64 (J i).1, .int .i64 i) ∧ ∃ D', RS1 h0 h' D' (J i).2.1 b5 b6 b7 bm vs { C with flo := (J i).2.2 }) ⟨by rw [hJ0]; rfl, D, by rw [hJ0]; exact r⟩ ?_
  rintro i s h' K' hi ⟨rfl, D', r'⟩ hk'
  match i, hi with
  | 0, _ =>
    rw [hJ0] at r' ⊢
    refine yz7j r' hv (k := 0) (by simp) (by simp) rfl hb (by omega) (by show ρ0.gens.length ≤ _; omega) (by decide) (by decide) (by decide) (by decide) (show (-1 : Int) < 4096 by decide) (show (-9223372036854775808 : Int) ≤ -1 by decide) (fun h2 s2 he => hk1 _ _ he (fun a _ => he a) s2) fun E2 h2 C2 hC2 r2 => ?_
    refine hk' (ptr b5 0, ptr b6 0, ptr b7 0, ptr bm 0, .int .i64 4096, .int .i64 1) h2 (by decide) ⟨by rw [hJ1]; rfl, E2, ?_⟩
    rw [hJ1, ← e1]
    subst hC2
    exact r2
  | 1, _ =>
    rw [hJ1] at r' ⊢
    refine yz7j r' hv (k := 1) (by simp) (by simp) rfl hd (by omega) (by show ρ1.gens.length ≤ _; omega) (by decide) (by decide) (by decide) (by decide) (show (4096 : Int) < 65536 by decide) (show (-9223372036854775808 : Int) ≤ 4096 by decide) (fun h2 s2 he => hk1 _ _ he (fun _ a => he a) s2) fun E2 h2 C2 hC2 r2 => ?_
    refine hk' (ptr b5 0, ptr b6 0, ptr b7 0, ptr bm 0, .int .i64 65536, .int .i64 2) h2 (by decide) ⟨by rw [hJ2]; rfl, E2, ?_⟩
    rw [hJ2, ← e2]
    subst hC2
    exact r2
  | 2, _ =>
    rw [hJ2] at r' ⊢
    simp (config := {dsimp := false}) [↓ybxa, yb3e r'.c5, (hv.mono r'.sub).ulen]
    exact hk2 D' h' r'
end
section
variable {h : H} {K : K1}
def RFits (pages p : Int) (bs data : List Int) : Prop := mapE ⟨pages, [], []⟩ 4096 1024 p = 0 ∧ mapE (wrR (rmapM ⟨pages, [], []⟩ 4096 1024 p) 4096 65536 0 bs) 65536 512 3 = 0 ∧
  mapE (wrR (rmapM (wrR (rmapM ⟨pages, [], []⟩ 4096 1024 p) 4096 65536 0 bs) 65536 512 3) 65536 65536 0 data) 2147475456 4096 3 = 0
def rmemN (pages p : Int) (bs data : List Int) : MS := wrR (rmapM (wrR (rmapM (wrR (rmapM ⟨pages, [], []⟩ 4096 1024 p) 4096 65536 0 bs) 65536 512 3) 65536 65536 0 data) 2147475456 4096 3) 2147475456 65536 0 stkB
theorem ya4k {vs vb vd : Value} {p pages dirty : Int} {bs data : List Int} (hv : Sl sgC 4 h vs [(4096, 1024, p, vb), (65536, 512, 3, vd)]) (hp : p = 5 ∨ p = 7) (hb : Sl u8V 1 h vb bs) (hd : Sl u8V 1 h vd data) (hbl : bs.length ≤ 1024) (hdl : data.length ≤ 512)
    (hpg : 1 ≤ pages ∧ pages ≤ 4096) (hdi : 0 ≤ dirty ∧ dirty ≤ 4096)
    {R : MS} (hR : rmemN pages p bs data = R) (hk1 : ∀ e h', e ≠ 0 → ¬ RFits pages p bs data → Sub h h' → K (.tuple #[.pointer none, .int .i64 e]) h')
    (hk2 : ∀ bm D sq f h', RIn h D h' R → ROk R → Sub h h' → h bm = none → h' bm = some (.cells (mc0 (ptr D.q 0) (ptr sq 0) f).cells yb54 .exact) → y2g0 h' f → K (.tuple #[ptr bm 0, .int .i64 0]) h') :
    AM.Spec PG yvpi [.agg #[.int .u32 4096, vs], noPol, yh6o, .int .i64 pages, .int .i64 dirty] h K := by
  refine yulk _ _ _ _ _ _ _ ?_
  have hvb := hv.box
  simp (config := {dsimp := false}) [↓yse5, ↓yals, hvb]
  intro b5 _ hb5 b6 _ n1 n2 hb6 b7 _ n3 n4 n5 n6 hb7
  have s3 : Sub h (upd (upd (upd h b5 (.cells [.int .u32 4096, vs] yr7r .exact)) b6 (.cells [.bool false, nilV, nilV] ysrv .exact)) b7 (.cells [nilV, nilV, nilV, nilV, nilV, nilV] y5c0 .exact)) := Sub.upd (Sub.upd (Sub.new hb5) hb6) hb7
  have c6 : upd (upd (upd h b5 (.cells [.int .u32 4096, vs] yr7r .exact)) b6 (.cells [.bool false, nilV, nilV] ysrv .exact)) b7 (.cells [nilV, nilV, nilV, nilV, nilV, nilV] y5c0 .exact) b6 = some (.cells [.bool false, nilV, nilV] ysrv .exact) := by rw [yrkk _ _ n4, yy0e]
  have c5 : upd (upd (upd h b5 (.cells [.int .u32 4096, vs] yr7r .exact)) b6 (.cells [.bool false, nilV, nilV] ysrv .exact)) b7 (.cells [nilV, nilV, nilV, nilV, nilV, nilV] y5c0 .exact) b5 = some (.cells [.int .u32 4096, vs] yr7r .exact) := by rw [yrkk _ _ n6, yrkk _ _ n2, yy0e]
  have c7 := yy0e (upd (upd h b5 (.cells [.int .u32 4096, vs] yr7r .exact)) b6 (.cells [.bool false, nilV, nilV] ysrv .exact)) b7 (.cells [nilV, nilV, nilV, nilV, nilV, nilV] y5c0 .exact)
  generalize upd (upd (upd h b5 _) b6 _) b7 _ = h1 at s3 c5 c6 c7 ⊢
  simp (config := {dsimp := false}) [yzql c5, yzql c6, yzql c7, n2, n4, n6]
  refine ⟨rfl, y8oc (hv.mono s3) hp (hb.mono s3) (hd.mono s3) hbl hdl ?_⟩
  simp (config := {dsimp := false}) [yzql c6]
  refine ⟨rfl, yjhg ?_⟩
  simp (config := {dsimp := false}) [yzql c7]
  refine ⟨rfl, y8mf ?_⟩
  have g1 : ¬ pages < 1 := by omega
  have g2 : ¬ pages > 4096 := by omega
  have g3 : ¬ dirty < 0 := by omega
  have g4 : ¬ dirty > 4096 := by omega
  simp (config := {dsimp := false}) [g1, g2, g3, g4, ↓yeh7, ↓y4to, yzql c6, yzql c7]
  intro bq _ hbq b57 _ n7 n8 hbs v h2 s4 hf
  obtain ⟨f, fq, fo, rfl, f1, f2, f3⟩ := hf
  have hf : y2g0 h2 (ptr f 0) := ⟨f, fq, fo, rfl, f1, f2, f3⟩
  have cq : h2 bq = some (.cells [.int .i64 pages, nilV, nilV] yxex .exact) := s4 _ _ (by rw [yrkk _ _ n8, yy0e])
  have s5 : Sub h1 h2 := (Sub.upd (Sub.new hbq) hbs).trans s4
  clear s4
  simp (config := {dsimp := false})
  intro bm _ hbm
  have hbm0 := Sub.none (s3.trans s5) hbm
  obtain ⟨C, hC⟩ : ∃ C : MC, C = ⟨ptr bq 0, ptr b57 0, zeros 32, 0, 0, zeros 128, ptr f 0, false, nilV, nilV, 0, 0, nilV⟩ := ⟨_, rfl⟩
  have hCc : C.cells = MC.cells ⟨ptr bq 0, ptr b57 0, zeros 32, 0, 0, zeros 128, ptr f 0, false, nilV, nilV, 0, 0, nilV⟩ := by rw [hC]
  have hCo : C.Ok := by rw [hC]; exact mc_ok List.length_replicate
  refine (show ∀ cs, cs = C.cells → ylpr (ptr b5 0) (ptr b6 0) (ptr b7 0) (ptr bm 0) (upd h2 bm (.cells cs yb54 .exact)) (fun y10 y11 h => (boxV y10 = true ∧ boxV y11 = true) ∧ K (.tuple #[y10, y11]) h) (fun y10 y11 h => (boxV y10 = true ∧ boxV y11 = true) ∧ K (.tuple #[y10, y11]) h) from ?_) _ (by rw [hCc]; rfl)
  rintro _ rfl
  have hfC : C.f = ptr f 0 := by rw [hC]
  have s6 := Sub.new (o := .cells C.cells yb54 .exact) hbm
  have hz0 : MSz ⟨pages, [], []⟩ := ⟨by simp; omega, hpg.2⟩
  obtain ⟨D, hD⟩ : ∃ D : RD, D = ⟨bq, nilV, none, nilV, none⟩ := ⟨_, rfl⟩
  have hm0 : RIn h D h2 ⟨pages, [], []⟩ := ⟨⟨by rw [hD]; exact cq, by rw [hD]; exact OL.none, by rw [hD]; exact OL.none⟩, fun b hb => by
    rcases hb with rfl | hb | hb
    · rw [hD]; exact Sub.none s3 hbq
    · rw [hD] at hb; cases hb
    · rw [hD] at hb; cases hb⟩
  have r0 : RS1 h (upd h2 bm (.cells C.cells yb54 .exact)) D ⟨pages, [], []⟩ b5 b6 b7 bm vs C :=
    ⟨hm0.sub s6, ⟨fun p hp => by simp at hp, hz0, by simp [Srt]⟩, (s3.trans s5).trans s6, s6 _ _ (s5 _ _ c5), s6 _ _ (s5 _ _ c6), s6 _ _ (s5 _ _ c7), yy0e _ _ _, hbm0, hCo, by rw [hC, hD], by rw [hfC]; exact hf.sub s6⟩
  generalize upd h2 bm _ = h3 at r0 ⊢
  clear s6 hm0 hbm cq f1 f2 f3 hf c5 c6 c7 n1 n2 n3 n4 n5 n6 n7 n8
  have hlen := MC.len hCo
  obtain ⟨ρ0, hρ0⟩ : ∃ ρ0 : MS, ρ0 = ⟨pages, [], []⟩ := ⟨_, rfl⟩
  have e0 : ρ0.gens.length = 0 := by rw [hρ0]; rfl
  unfold rmemN at hR
  rw [← hρ0] at r0 hR
  unfold ylpr
  simp (config := {dsimp := false}) only [s_nil]
  rw [st1 r0.cm (by decide) rfl rfl (by omega) (MC.set_flo hCo)]
  have r1 := r0.set (C' := { C with flo := 2147475456 }) ⟨hCo.x, hCo.t⟩ rfl rfl
  generalize upd h3 bm _ = h4 at r1 ⊢
  unfold y2yo
  refine yh2a r1 hv hb hd hbl hdl e0 rfl rfl ?_ fun E2 h5 r2 => ?_
  · intro e h' he hno hs
    rw [hρ0] at hno
    exact ⟨⟨rfl, rfl⟩, hk1 e h' he (fun hf => hno hf.1 hf.2.1) hs⟩
  obtain ⟨ρ2, hρ2⟩ : ∃ ρ2, wrR (rmapM (wrR (rmapM ρ0 4096 1024 p) 4096 65536 0 bs) 65536 512 3) 65536 65536 0 data = ρ2 := ⟨_, rfl⟩
  have hg2 : ρ2.gens.length ≤ 4000 := by
    have h1 := yeag (ρ := ρ0) (a := 4096) (n := 1024) (p := p) (most := 65536) (need := 0) (bs := bs) (by decide) (by decide)
    have h2 := yeag (ρ := wrR (rmapM ρ0 4096 1024 p) 4096 65536 0 bs) (a := 65536) (n := 512) (p := 3) (most := 65536) (need := 0) (bs := data) (by decide) (by decide)
    rw [hρ2] at h2
    omega
  rw [hρ2] at hR r2
  clear r0 r1
  obtain ⟨C2, hC2⟩ : ∃ C2 : MC, C2 = { C with flo := 66048 } := ⟨_, rfl⟩
  rw [← hC2] at r2
  unfold y241
  simp (config := {dsimp := false}) [yb3e r2.c7]
  refine ⟨rfl, yvad fun q h6 s6 hq0 hq2 hq => ?_⟩
  have h0q := Sub.none r2.sub hq0
  have r3 := (r2.grow s6).base hq
  have hvS : Sl u8V 1 (upd h q (.cells (stkB.map (.int .u8)) yoj6 .exact)) (.slice (some ⟨q, 0, none⟩) 4096 4096) stkB := by
    have := ys9b (h := upd h q (.cells (stkB.map (.int .u8)) yoj6 .exact)) (c := 4096) (yy0e _ _ _)
    rw [y5r7] at this
    exact this
  generalize hsp : (2147479536 : Int) = sp
  have l3 : C2.cells[0]? = some (ptr E2.q 0) := by rw [MC.at_0, r3.q]
  simp (config := {dsimp := false}) only [yec8, ykd4, y2zs, ym3t]
  simp (config := {dsimp := false}) only [s_neq, s_if]
  simp (config := {dsimp := false}) [yb3e r3.cm, l3]
  refine ⟨rfl, yqej r3.mem r3.sub r3.ok.kb r3.ok.z (by omega) (by decide) (by decide) (by decide) (by decide) fun E4 h7 w4 => ?_⟩
  have r4 := r3.went w4 (r3.ok.map (by decide) (by decide) (by decide) (by decide))
  by_cases he : mapE ρ2 2147475456 4096 3 = 0
  case neg =>
    simp (config := {dsimp := false}) only [s_neq, s_if, he]
    simp (config := {dsimp := false}) [he]
    refine hk1 _ h7 he (fun hf => he ?_) (r4.less h0q).sub
    have := hf.2.2
    rw [← hρ0, hρ2] at this
    exact this
  have l4 : C2.cells[0]? = some (ptr E4.q 0) := by rw [MC.at_0, r4.q]
  simp (config := {dsimp := false}) only [s_neq, s_if, he]
  simp (config := {dsimp := false}) [yb3e r4.cm, l4]
  have hz4 := r4.ok.z
  have hg4 := ymje (ρ := ρ2) (a := 2147475456) (n := 4096) (perm := 3) (by decide) (by decide)
  refine ⟨rfl, ylyc r4.mem r4.sub r4.ok.srt (by obtain ⟨z1, z2⟩ := hz4; omega) (by omega) (by rw [y5r7]; decide) (by decide) (by decide) hvS fun E5 h8 w5 => ?_⟩
  have r5 := (r4.went w5 r4.ok.wr).less h0q
  rw [hR] at r5
  clear r3 r4 w4 w5 hz4
  have l5 : C2.cells[169]? = some (.int .u32 66048) := by rw [MC.at_flo r5.co, hC2]
  have hlen2 := MC.len r5.co
  have stp : ∀ (K : H → Prop) (u : Dm K), u_st 1 168 (.pointer (some ⟨bm, 0, none⟩)) (.int .u32 66048) h8 K u = K (upd h8 bm (.cells ({ C2 with brk := 66048 } : MC).cells yb54 .exact)) := fun K u =>
    st1 r5.cm (by decide) rfl rfl (by omega) (MC.set_brk r5.co)
  simp (config := {dsimp := false}) [yb3e r5.cm, l5, stp]
  have r6 := r5.set (C' := { C2 with brk := 66048 }) ⟨r5.co.x, r5.co.t⟩ rfl rfl
  generalize upd h8 bm _ = h9 at r6 ⊢
  unfold yaz5 ygxc yf5q ywpg
  refine yq9z fun K' => ?_
  simp (config := {dsimp := false}) [↓ytqz, yb3e r6.c6]
  have stq : ∀ (K : H → Prop) (u : Dm K), u_st 1 32 (.pointer (some ⟨bm, 2, none⟩)) (.int .u32 4096) h9 K u = K (upd h9 bm (.cells ({ C2 with brk := 66048, pc := 4096 } : MC).cells yb54 .exact)) := fun K u => by
    rw [s_st]; exact ypi4 r6.cm (by decide) rfl rfl (by have := MC.len r6.co; omega) (MC.set_pc r6.co)
  have r7 := r6.set (C' := { C2 with brk := 66048, pc := 4096 }) ⟨r5.co.x, r5.co.t⟩ rfl rfl
  simp (config := {dsimp := false}) [↓yy4w, yb3e r6.c5, stq]
  refine ⟨by have := MC.len r7.co; omega, ?_⟩
  rw [show ({ C2 with brk := 66048, pc := 4096 } : MC).cells.set 4 (.int .u32 sp) = _ from MC.set_x r7.co (i := 2) (by omega)]
  have r8 := r6.set (C' := { C2 with brk := 66048, pc := 4096, x := C2.x.set 2 sp }) ⟨by simp [r5.co.x], r5.co.t⟩ rfl rfl
  have hq8 := r8.q
  have eC : ({ C2 with brk := 66048, pc := 4096, x := C2.x.set 2 sp } : MC) = mc0 (ptr E5.q 0) (ptr b57 0) (ptr f 0) := by
    rw [← show ({ C2 with brk := 66048, pc := 4096, x := C2.x.set 2 sp } : MC).q = ptr E5.q 0 from hq8, hC2, hC, ← hsp]
    rfl
  have hf8 := r8.f
  have hf9 : ({ C2 with brk := 66048, pc := 4096, x := C2.x.set 2 sp } : MC).f = ptr f 0 := by rw [eC]; rfl
  refine hk2 bm E5 b57 (ptr f 0) _ r8.mem r8.ok r8.sub hbm0 ?_ (hf9 ▸ hf8)
  rw [yy0e, ← eC]
end
end Go.Proofs.YtnckimioabkheaaGreat

set_option linter.unusedSimpArgs false
set_option linter.unusedVariables false
set_option maxRecDepth 100000
set_option maxHeartbeats 4000000
namespace Go.Proofs.YtnckimioabkheaaGreat
open AM
section
variable {h : H} {K : K1}
theorem y030 : ∀ {ws : List Int}, (ytw8 ws).length = 4 * ws.length
  | [] => rfl
  | w :: r => by
    have := y030 (ws := r)
    unfold ytw8 at this ⊢
    rw [List.flatMap_cons, List.length_append, this]
    simp [word4]; omega
theorem y0fb {ws : List Int} : ∀ x ∈ ytw8 ws, 0 ≤ x ∧ x < 256 := by
  intro x hx
  unfold ytw8 at hx
  obtain ⟨w, _, hx⟩ := List.mem_flatMap.1 hx
  simp only [word4, List.mem_cons, List.not_mem_nil, or_false] at hx
  rcases hx with rfl | rfl | rfl | rfl <;> exact ⟨wn_u8, wl_u8⟩
def segP (all : Bool) : Int := if all = true then 7 else 5
theorem y2rl {all : Bool} : segP all = 5 ∨ segP all = 7 := by cases all <;> simp [segP]
def lay1 (pages p : Int) (bs data : List Int) : Int × MS := layF ⟨pages, [], []⟩ (ys41 p nilV nilV bs data)
def lay2 (pages p : Int) (bs data : List Int) : Int × MS := layF (lay1 pages p bs data).2 [stkSg]
theorem ysco {pages p : Int} {vb vd : Value} {bs data : List Int} : layF ⟨pages, [], []⟩ (ys41 p vb vd bs data) = lay1 pages p bs data := rfl
structure Fits (pages p : Int) (bs data : List Int) : Prop where
  a : (lay1 pages p bs data).1 = 0
  b : (lay2 pages p bs data).1 = 0
  r : RFits pages p bs data
theorem yka6 {vs vb vd v32 : Value} {e p pages dirty : Int} {bs data : List Int} {b10 b11 b16 : Nat} (hbx : boxV v32 = true)
    (c10 : h b10 = some (.cells [nilV, nilV, nilV, nilV, nilV, nilV] ylzr .exact)) (c11 : h b11 = some (.cells [.bool false, nilV, nilV] y4pp .exact)) (c16 : h b16 = some (.cells [.int .u32 4096, vs] y33u .exact))
    (hsg : Sl sgC 4 h vs [(4096, 1024, p, vb), (65536, 512, 3, vd)]) (hp : p = 5 ∨ p = 7) (hb : Sl u8V 1 h vb bs) (hd : Sl u8V 1 h vd data) (hbl : bs.length ≤ 1024) (hdl : data.length ≤ 512)
    (hpg : 1 ≤ pages ∧ pages ≤ 4096) (hdi : 0 ≤ dirty ∧ dirty ≤ 4096)
    (hk1 : ∀ h', Sub h h' → (e ≠ 0 ∨ ¬ RFits pages p bs data) → K (.tuple #[.pointer none, .pointer none]) h')
    (hk2 : ∀ bm' h', Sub h h' → e = 0 → K (.tuple #[v32, ptr bm' 0]) h') :
    ycfc (.int .i64 pages) (.int .i64 dirty) (ptr b10 0) (ptr b11 0) (ptr b16 0) v32 (.int .i64 e) h
      (fun y14 y15 h => bif [y14, y15].all boxV then K (.tuple #[y14, y15]) h else False) (fun y14 y15 h => bif [y14, y15].all boxV then K (.tuple #[y14, y15]) h else False) := by
  have hvsb := hsg.box
  unfold ycfc yq8h
  simp (config := {dsimp := false}) [yzql c16, yzql c11, yzql c10, hvsb]
  refine ⟨rfl, yen8 hsg ?_ (by simp) fun v1 h1 s1 hsg1 => ?_⟩
  · intro s hs
    simp only [List.mem_cons, List.not_mem_nil, or_false] at hs
    rcases hs with rfl | rfl
    · exact (Sl.form hb).imp fun z hz => hz.imp fun l hl => hl.imp fun c hc => hc
    · exact (Sl.form hd).imp fun z hz => hz.imp fun l hl => hl.imp fun c hc => hc
  have d10 := s1 _ _ c10
  have d11 := s1 _ _ c11
  have hvsb1 := hsg1.box
  simp (config := {dsimp := false}) [yzql d11, yzql d10, hvsb1]
  refine ⟨rfl, yrmy fun h2 s2 => ?_⟩
  have d10' := s2 _ _ d10
  simp (config := {dsimp := false}) [yzql d10', hvsb1]
  refine ⟨rfl, ybr2 fun h3 s3 => ?_⟩
  have s13 := (s1.trans s2).trans s3
  have s23 := s2.trans s3
  refine ⟨by simp [hvsb1], ya4k (hsg1.mono s23) hp (hb.mono s13) (hd.mono s13) hbl hdl hpg hdi rfl ?_ ?_⟩
  · intro e2 h4 he2 hno s4
    simp (config := {dsimp := false}) only [s_ex0, s_ex1, ↓y3h7, s_neq]
    by_cases he : e = 0
    · simp (config := {dsimp := false}) [he, he2]
      exact hk1 h4 (s13.trans s4) (.inr hno)
    · simp (config := {dsimp := false}) [he]
      exact hk1 h4 (s13.trans s4) (.inl he)
  · intro bm' D sq f h4 _ _ s4 _ _ _
    simp (config := {dsimp := false}) only [s_ex0, s_ex1, ↓y3h7, s_neq]
    by_cases he : e = 0
    · simp (config := {dsimp := false}) [he, hbx]
      exact hk2 bm' h4 (s13.trans s4) he
    · simp (config := {dsimp := false}) [he]
      exact hk1 h4 (s13.trans s4) (.inl he)
theorem yjd9 {v vd : Value} {ws data : List Int} {all : Bool} {pages dirty : Int} (hv : Sl u32V 1 h v ws) (hw : ∀ x ∈ ws, 0 ≤ x ∧ x < 4294967296) (hlen : ws.length ≤ 256) (hd : Sl u8V 1 h vd data) (hdd : ∀ x ∈ data, 0 ≤ x ∧ x < 256) (hdl : data.length ≤ 512)
    (hpg : 1 ≤ pages ∧ pages ≤ 4096) (hdi : 0 ≤ dirty ∧ dirty ≤ 4096)
    (hk1 : ∀ h', Sub h h' → ¬ Fits pages (segP all) (ytw8 ws) data → K (.tuple #[.pointer none, .pointer none]) h')
    (hk2 : ∀ bm bm' D sq sm f h' μ, μ = (lay2 pages (segP all) (ytw8 ws) data).2 → MemIn h D h' μ → MSok μ → MSz μ → Sub h h' → h bm = none → h' bm = some (.cells (mc0 (ptr D.q 0) (ptr sq 0) f).cells ynne .exact) →
      h' sq = some (.cells [.int .i64 dirty, .map (some sm)] y2um .exact) → h' sm = some (.map (.int .u32) [] 0) → ¬ MOwn D μ sm → K (.tuple #[ptr bm 0, ptr bm' 0]) h') :
    AM.Spec PG ynh3 [v, vd, .bool all, yh6o, noPol, .int .i64 pages, .int .i64 dirty] h K := by
  refine ye1o _ _ _ _ _ _ _ _ _ ?_
  have hvb := hv.box
  have hdb := hd.box
  simp (config := {dsimp := false}) [↓ym31, ↓yw2t]
  intro b10 _ hb10 b11 _ n1 n2 hb11
  have s1 : Sub h (upd (upd h b10 (.cells [nilV, nilV, nilV, nilV, nilV, nilV] ylzr .exact)) b11 (.cells [.bool false, nilV, nilV] y4pp .exact)) := Sub.upd (Sub.new hb10) hb11
  have c10 : upd (upd h b10 (.cells [nilV, nilV, nilV, nilV, nilV, nilV] ylzr .exact)) b11 (.cells [.bool false, nilV, nilV] y4pp .exact) b10 = some (.cells [nilV, nilV, nilV, nilV, nilV, nilV] ylzr .exact) := by rw [yrkk _ _ n2, yy0e]
  have c11 := yy0e (upd h b10 (.cells [nilV, nilV, nilV, nilV, nilV, nilV] ylzr .exact)) b11 (.cells [.bool false, nilV, nilV] y4pp .exact)
  generalize upd (upd h b10 _) b11 _ = h1 at s1 c10 c11 ⊢
  refine ⟨by simp [hvb, hdb], yj7q (hv.mono s1) hw (by omega) (hd.mono s1) fun vs vb h2 s2 hq hsb hsg => ?_⟩
  replace c10 := s2 _ _ c10
  replace c11 := s2 _ _ c11
  replace s1 := s1.trans s2
  clear s2
  have hvsb := hsg.box
  intro b16 _ hb16
  have st : ∀ (K : H → Prop) (u : Dm K), ylel 2 (.pointer (some ⟨b16, 0, none⟩)) (.agg #[.int .u32 4096, vs]) (upd h2 b16 (.cells [.int .u32 0, .slice none 0 0] y33u .exact)) K u = K (upd h2 b16 (.cells [.int .u32 4096, vs] y33u .exact)) := fun K u => by
    simp (config := {dsimp := false}) [hvsb]
  rw [st]
  have s3 := Sub.new (o := .cells [.int .u32 4096, vs] y33u .exact) hb16
  have c16 := yy0e h2 b16 (.cells [.int .u32 4096, vs] y33u .exact)
  replace hsg := hsg.mono s3
  replace hsb := hsb.mono s3
  replace c10 := s3 _ _ c10
  replace c11 := s3 _ _ c11
  replace s1 := s1.trans s3
  clear st
  generalize upd h2 b16 _ = h3 at *
  clear s3
  have e1 : (if all = true then (7 : Int) else 5) = segP all := rfl
  rw [e1] at hsg
  have hbl : (ytw8 ws).length ≤ 1024 := by rw [y030]; omega
  simp (config := {dsimp := false}) [yzql c16, yzql c11, yzql c10, hvsb]
  refine ⟨rfl, y37b hsg y2rl hsb (hd.mono s1) hq hbl hdl y0fb hdd hpg hdi ?_ ?_⟩
  · intro e h4 he hno s4
    rw [ysco] at hno
    refine yka6 rfl (s4 _ _ c10) (s4 _ _ c11) (s4 _ _ c16) (hsg.mono s4) y2rl (hsb.mono s4) (hd.mono (s1.trans s4)) hbl hdl hpg hdi (fun h5 s5 hor => hk1 h5 ((s1.trans s4).trans s5) fun hf => hno hf.a hf.b) (fun _ _ _ h0 => absurd h0 he)
  · intro bm D sq sm f h4 μ hμ z1 z2 hm hw1 hz1 s4 hbm0 hbm hsq hsm hown
    rw [ysco] at hμ z1 z2
    refine yka6 rfl (s4 _ _ c10) (s4 _ _ c11) (s4 _ _ c16) (hsg.mono s4) y2rl (hsb.mono s4) (hd.mono (s1.trans s4)) hbl hdl hpg hdi (fun h5 s5 hor => hk1 h5 ((s1.trans s4).trans s5) fun hf => hor.elim (fun h => h rfl) fun hn => hn hf.r) fun bm' h5 s5 _ => ?_
    exact hk2 bm bm' D sq sm f h5 μ hμ ⟨(hm.sub s5).at_, fun b hb => Sub.none s1 (hm.new b hb), hm.ne, hm.inj, hm.nd⟩ hw1 hz1 ((s1.trans s4).trans s5) (Sub.none s1 hbm0) (s5 _ _ hbm) (s5 _ _ hsq) (s5 _ _ hsm) hown
end
end Go.Proofs.YtnckimioabkheaaGreat

set_option linter.unusedVariables false
set_option maxRecDepth 100000
namespace Go.Proofs.YtnckimioabkheaaGreat
open Go.Proofs.YtnckimioabkheaaGreat.AM
@[simp] theorem y62w {a1 : Int} {K : Value → Prop} {u : Dm K} : ysnr PG yhds [(1, .int .u32 a1)] K u = K (.agg #[.slice none 0 0, .int .u32 a1]) := by kernel_rfl
@[simp] theorem yuis {a0 : Int} {a1 : Int} {a2 : Int} {a3 : Int} {a4 : Int} {a5 : Int} {K : Value → Prop} {u : Dm K} : ysnr PG ycrj [(0, .int .u32 a0), (1, .int .u32 a1), (2, .int .u32 a2), (3, .int .u32 a3), (4, .int .u32 a4), (5, .int .u32 a5)] K u = K (.agg #[.int .u32 a0, .int .u32 a1, .int .u32 a2, .int .u32 a3, .int .u32 a4, .int .u32 a5]) := by kernel_rfl
@[simp] theorem y2wq {a0 : Int} {a1 : Int} {a2 : Int} {a3 : Int} {a4 : Int} {K : Value → Prop} {u : Dm K} : ysnr PG yq0s [(0, .int .i64 a0), (1, .int .i64 a1), (2, .int .i64 a2), (3, .int .i64 a3), (4, .int .u32 a4)] K u = K (.agg #[.int .i64 a0, .int .i64 a1, .int .i64 a2, .int .i64 a3, .int .u32 a4]) := by kernel_rfl
@[simp] theorem y7k6 {a0_0 : Int} {a0_1 : Int} {a0_2 : Int} {a0_3 : Int} {a0_4 : Int} {h : H} {K : K1} {u : Dm K} : ynqb PG yf02 1 [(0, .agg #[.int .i64 a0_0, .int .i64 a0_1, .int .i64 a0_2, .int .i64 a0_3, .int .u32 a0_4])] h K u = u_new [.int .i64 a0_0, .int .i64 a0_1, .int .i64 a0_2, .int .i64 a0_3, .int .u32 a0_4] yq0s .exact h fun b h => K (.slice (some ⟨b, 0, none⟩) 1 1) h := by kernel_rfl
def ync2 (x0 x1 x2 x3 x4 x5 : Value) (h : H) (Kn : K0) (Kr : K0) : Prop :=
  u_pf false 1 0 x0 h fun v16 => ysnr PG yq0s [(0, x1), (1, x2), (2, x3), (3, x4), (4, x5)] fun v22 => ynqb PG yf02 1 [(0, v22)] h fun v23 h => yx4h yq0s 5 40 v16 v23 h fun v24 h => y394 x0 fun v25 => u_st 1 0 v25 v24 h fun h => Kn h
theorem yfmm (Kn : K0) (Kr : K0) (t : T) (h : H) (H0 : ync2 (t 0) (t 1) (t 2) (t 3) (t 4) (t 5) h Kn Kr) : Wp PG 27 (ygjk Tryz.f52.body) (mkQ (q0 Kn) (q0 Kr) ke0) t h :=
  wpEqC E5_ok H0 (by kernel_rfl)
def ynva (x0 x1 x2 x3 x4 x5 : Value) (h : H) (Q : K1) : Prop := ync2 x0 x1 x2 x3 x4 x5 h (fun h => bif [].all boxV then Q (.tuple #[]) h else False) (fun h => bif [].all boxV then Q (.tuple #[]) h else False)
theorem y1p4 (x0 x1 x2 x3 x4 x5 : Value) (h : H) (Q : K1) (H0 : ynva x0 x1 x2 x3 x4 x5 h Q) : AM.Spec PG y1cr [x0, x1, x2, x3, x4, x5] h Q :=
  yqxt mixed (fn := Tryz.f52) Tryz.func52 (c := ygjk Tryz.f52.body) (rs := []) (N := 27) (by kernel_rfl) (by kernel_rfl) (by kernel_rfl) (by kernel_rfl) (by kernel_rfl) (Nat.le_of_ble_eq_true rfl) (yfmm (fun h => bif [].all boxV then Q (.tuple #[]) h else False) (fun h => bif [].all boxV then Q (.tuple #[]) h else False) (tinit [x0, x1, x2, x3, x4, x5]) h H0) (by kernel_rfl)
def y7nh (x0 x1 x2 : Value) (h : H) (Kn : K0) (Kr : K0) : Prop :=
  y2x6 .u32 x2 fun v9 => yjdf PG y1cr [x0, (.int .i64 2), x1, (.int .i64 0), (.int .i64 0), v9] h fun v10 h => Kn h
theorem yt7d (Kn : K0) (Kr : K0) (t : T) (h : H) (H0 : y7nh (t 0) (t 1) (t 2) h Kn Kr) : Wp PG 11 (ygjk Tryz.f233.body) (mkQ (q0 Kn) (q0 Kr) ke0) t h :=
  wpEqC E5_ok H0 (by kernel_rfl)
def yz1t (x0 x1 x2 : Value) (h : H) (Q : K1) : Prop := y7nh x0 x1 x2 h (fun h => bif [].all boxV then Q (.tuple #[]) h else False) (fun h => bif [].all boxV then Q (.tuple #[]) h else False)
theorem y9gn (x0 x1 x2 : Value) (h : H) (Q : K1) (H0 : yz1t x0 x1 x2 h Q) : AM.Spec PG yrw2 [x0, x1, x2] h Q :=
  yqxt mixed (fn := Tryz.f233) Tryz.func233 (c := ygjk Tryz.f233.body) (rs := []) (N := 11) (by kernel_rfl) (by kernel_rfl) (by kernel_rfl) (by kernel_rfl) (by kernel_rfl) (Nat.le_of_ble_eq_true rfl) (yt7d (fun h => bif [].all boxV then Q (.tuple #[]) h else False) (fun h => bif [].all boxV then Q (.tuple #[]) h else False) (tinit [x0, x1, x2]) h H0) (by kernel_rfl)
def yoe6 (x0 x1 x2 : Value) (h : H) (Kn : K0) (Kr : K0) : Prop :=
  yjdf PG y1cr [x0, (.int .i64 1), x1, (.int .i64 0), (.int .i64 0), x2] h fun v9 h => Kn h
theorem yz6h (Kn : K0) (Kr : K0) (t : T) (h : H) (H0 : yoe6 (t 0) (t 1) (t 2) h Kn Kr) : Wp PG 10 (ygjk Tryz.f156.body) (mkQ (q0 Kn) (q0 Kr) ke0) t h :=
  wpEqC E5_ok H0 (by kernel_rfl)
def yowe (x0 x1 x2 : Value) (h : H) (Q : K1) : Prop := yoe6 x0 x1 x2 h (fun h => bif [].all boxV then Q (.tuple #[]) h else False) (fun h => bif [].all boxV then Q (.tuple #[]) h else False)
theorem yg94 (x0 x1 x2 : Value) (h : H) (Q : K1) (H0 : yowe x0 x1 x2 h Q) : AM.Spec PG yaf9 [x0, x1, x2] h Q :=
  yqxt mixed (fn := Tryz.f156) Tryz.func156 (c := ygjk Tryz.f156.body) (rs := []) (N := 10) (by kernel_rfl) (by kernel_rfl) (by kernel_rfl) (by kernel_rfl) (by kernel_rfl) (Nat.le_of_ble_eq_true rfl) (yz6h (fun h => bif [].all boxV then Q (.tuple #[]) h else False) (fun h => bif [].all boxV then Q (.tuple #[]) h else False) (tinit [x0, x1, x2]) h H0) (by kernel_rfl)
def ymqw (x0 x1 x2 : Value) (h : H) (Kn : K0) (Kr : K0) : Prop :=
  u_bin PG .gtr T_int x1 (.int .i64 0) fun v7 => u_if v7 (y2x6 .u32 x1 fun v11 => yjdf PG y1cr [x0, (.int .i64 3), (.int .i64 0), x2, (.int .i64 0), v11] h fun v12 h => yjdf PG y1cr [x0, (.int .i64 9), (.int .i64 0), (.int .i64 0), (.int .i64 0), (.int .u32 0)] h fun v14 h => Kn h) (yjdf PG y1cr [x0, (.int .i64 9), (.int .i64 0), (.int .i64 0), (.int .i64 0), (.int .u32 0)] h fun v14 h => Kn h)
theorem yjhe (Kn : K0) (Kr : K0) (t : T) (h : H) (H0 : ymqw (t 0) (t 1) (t 2) h Kn Kr) : Wp PG 15 (ygjk Tryz.f157.body) (mkQ (q0 Kn) (q0 Kr) ke0) t h :=
  wpEqC E5_ok H0 (by kernel_rfl)
def yare (x0 x1 x2 : Value) (h : H) (Q : K1) : Prop := ymqw x0 x1 x2 h (fun h => bif [].all boxV then Q (.tuple #[]) h else False) (fun h => bif [].all boxV then Q (.tuple #[]) h else False)
theorem yn5o (x0 x1 x2 : Value) (h : H) (Q : K1) (H0 : yare x0 x1 x2 h Q) : AM.Spec PG yzfg [x0, x1, x2] h Q :=
  yqxt mixed (fn := Tryz.f157) Tryz.func157 (c := ygjk Tryz.f157.body) (rs := []) (N := 15) (by kernel_rfl) (by kernel_rfl) (by kernel_rfl) (by kernel_rfl) (by kernel_rfl) (Nat.le_of_ble_eq_true rfl) (yjhe (fun h => bif [].all boxV then Q (.tuple #[]) h else False) (fun h => bif [].all boxV then Q (.tuple #[]) h else False) (tinit [x0, x1, x2]) h H0) (by kernel_rfl)
def yyxt (x0 x1 : Value) (h : H) (Kn : K0) (Kr : K0) : Prop :=
  boxV x1 = true ∧ u_new (Value.cells x1).toList yc0x .exact h fun b3 h => u_bf false 1 2 (.pointer (some ⟨b3, 0, none⟩)) h fun v6 => yjdf PG yrw2 [x0, (.int .i64 0), v6] h fun v7 h => u_bf false 1 4 (.pointer (some ⟨b3, 0, none⟩)) h fun v10 => y2x6 .u32 v10 fun v11 => yjdf PG yaf9 [x0, (.int .i64 1), v11] h fun v12 h => yjdf PG y1cr [x0, (.int .i64 4), (.int .i64 2), (.int .i64 0), (.int .i64 1), (.int .u32 0)] h fun v14 h => Kn h
theorem yd28 (Kn : K0) (Kr : K0) (t : T) (h : H) (H0 : yyxt (t 0) (t 1) h Kn Kr) : Wp PG 15 (ygjk Tryz.f232.body) (mkQ (q0 Kn) (q0 Kr) ke0) t h :=
  wpEqC E5_ok H0 (by kernel_rfl)
def y3bv (x0 x1 : Value) (h : H) (Q : K1) : Prop := yyxt x0 x1 h (fun h => bif [].all boxV then Q (.tuple #[]) h else False) (fun h => bif [].all boxV then Q (.tuple #[]) h else False)
theorem ylnm (x0 x1 : Value) (h : H) (Q : K1) (H0 : y3bv x0 x1 h Q) : AM.Spec PG ygwt [x0, x1] h Q :=
  yqxt mixed (fn := Tryz.f232) Tryz.func232 (c := ygjk Tryz.f232.body) (rs := []) (N := 15) (by kernel_rfl) (by kernel_rfl) (by kernel_rfl) (by kernel_rfl) (by kernel_rfl) (Nat.le_of_ble_eq_true rfl) (yd28 (fun h => bif [].all boxV then Q (.tuple #[]) h else False) (fun h => bif [].all boxV then Q (.tuple #[]) h else False) (tinit [x0, x1]) h H0) (by kernel_rfl)
def ytiw (x0 x3 : Value) (h : H) (Kn : K2) (Kr : K0) : Prop :=
  u_pf false 1 1 x0 h fun v8 => u_bf false 1 4 x3 h fun v10 => y2x6 .u32 v10 fun v11 => u_bin PG .add ycpa v8 v11 fun v12 => yjdf PG yaf9 [x0, (.int .i64 2), v12] h fun v13 h => Kn x0 x3 h
theorem ycss (Kn : K2) (Kr : K0) (t : T) (h : H) (H0 : ytiw (t 0) (t 3) h Kn Kr) : Wp PG 29 (seqL (rest 1 (ygjk Tryz.f158.body))) (mkQ (q2 Kn 0 3) (q0 Kr) ke0) t h :=
  ybop E5_ok [0, 1, 2, 3, 4, 5, 6, 7, 8, 9] (by kernel_rfl) (by kernel_rfl) H0 (by kernel_rfl)
def y7oi (x0 x3 : Value) (h : H) (Kn : K0) (Kr : K0) : Prop :=
  yjdf PG y1cr [x0, (.int .i64 21), (.int .i64 0), (.int .i64 2), (.int .i64 0), (.int .u32 0)] h fun v15 h => u_pf false 1 1 x0 h fun v20 => u_bin PG .add ycpa v20 (.int .u32 4) fun v21 => yjdf PG yaf9 [x0, (.int .i64 3), v21] h fun v22 h => u_bf false 1 1 x3 h fun v25 => yjdf PG yzfg [x0, v25, (.int .i64 3)] h fun v26 h => yjdf PG y1cr [x0, (.int .i64 11), (.int .i64 0), (.int .i64 2), (.int .i64 0), (.int .u32 0)] h fun v28 h => Kn h
theorem yfl0 (Kn : K0) (Kr : K0) (t : T) (h : H) (H0 : y7oi (t 0) (t 3) h Kn Kr) : Wp PG 29 (seqR (rest 1 (ygjk Tryz.f158.body))) (mkQ (q0 Kn) (q0 Kr) ke0) t h :=
  wpEqC E5_ok H0 (by kernel_rfl)
def yp36 (x0 x3 : Value) (h : H) (Kn : K0) (Kr : K0) : Prop :=
  ytiw x0 x3 h (fun y0 y3 h => y7oi y0 y3 h Kn Kr) Kr
theorem ylqi (Kn : K0) (Kr : K0) (t : T) (h : H) (H0 : yp36 (t 0) (t 3) h Kn Kr) : Wp PG 29 (rest 1 (ygjk Tryz.f158.body)) (mkQ (q0 Kn) (q0 Kr) ke0) t h :=
  ykv2 (by kernel_rfl) (fun t h H1 => yfl0 Kn Kr t h H1) (ycss (fun y0 y3 h => y7oi y0 y3 h Kn Kr) Kr t h H0)
def yio4 (x0 x1 : Value) (h : H) (Kn : K0) (Kr : K0) : Prop :=
  boxV x1 = true ∧ u_new (Value.cells x1).toList yc0x .exact h fun b3 h => yp36 x0 (.pointer (some ⟨b3, 0, none⟩)) h Kn Kr
theorem ycut (Kn : K0) (Kr : K0) (t : T) (h : H) (H0 : yio4 (t 0) (t 1) h Kn Kr) : Wp PG 29 (ygjk Tryz.f158.body) (mkQ (q0 Kn) (q0 Kr) ke0) t h :=
  yvnp E5_ok 1 H0 (by kernel_rfl) (fun t h (H1 : yp36 (t 0) (t 3) h Kn Kr) => ylqi Kn Kr t h H1) (by kernel_rfl)
def yteq (x0 x1 : Value) (h : H) (Q : K1) : Prop := yio4 x0 x1 h (fun h => bif [].all boxV then Q (.tuple #[]) h else False) (fun h => bif [].all boxV then Q (.tuple #[]) h else False)
theorem y7dx (x0 x1 : Value) (h : H) (Q : K1) (H0 : yteq x0 x1 h Q) : AM.Spec PG y9rb [x0, x1] h Q :=
  yqxt mixed (fn := Tryz.f158) Tryz.func158 (c := ygjk Tryz.f158.body) (rs := []) (N := 29) (by kernel_rfl) (by kernel_rfl) (by kernel_rfl) (by kernel_rfl) (by kernel_rfl) (Nat.le_of_ble_eq_true rfl) (ycut (fun h => bif [].all boxV then Q (.tuple #[]) h else False) (fun h => bif [].all boxV then Q (.tuple #[]) h else False) (tinit [x0, x1]) h H0) (by kernel_rfl)
def y7fy (x0 x1 : Value) (h : H) (Kn : K0) (Kr : K0) : Prop :=
  boxV x1 = true ∧ u_new (Value.cells x1).toList yc0x .exact h fun b3 h => ybqh true 5 (.pointer (some ⟨b3, 0, none⟩)) h fun v5 => yjdf PG ygwt [x0, v5] h fun v6 h => yjdf PG yaf9 [x0, (.int .i64 3), (.int .u32 4294967294)] h fun v8 h => yjdf PG y1cr [x0, (.int .i64 4), (.int .i64 4), (.int .i64 2), (.int .i64 3), (.int .u32 9)] h fun v10 h => yjdf PG y1cr [x0, (.int .i64 21), (.int .i64 0), (.int .i64 4), (.int .i64 0), (.int .u32 0)] h fun v12 h => u_pf false 1 1 x0 h fun v17 => u_bin PG .add ycpa v17 (.int .u32 4) fun v18 => yjdf PG yaf9 [x0, (.int .i64 0), v18] h fun v19 h => u_bf false 1 1 (.pointer (some ⟨b3, 0, none⟩)) h fun v22 => yjdf PG yzfg [x0, v22, (.int .i64 0)] h fun v23 h => yjdf PG y1cr [x0, (.int .i64 11), (.int .i64 0), (.int .i64 4), (.int .i64 0), (.int .u32 0)] h fun v25 h => Kn h
theorem yklq (Kn : K0) (Kr : K0) (t : T) (h : H) (H0 : y7fy (t 0) (t 1) h Kn Kr) : Wp PG 26 (ygjk Tryz.f159.body) (mkQ (q0 Kn) (q0 Kr) ke0) t h :=
  wpEqC E5_ok H0 (by kernel_rfl)
def y4lu (x0 x1 : Value) (h : H) (Q : K1) : Prop := y7fy x0 x1 h (fun h => bif [].all boxV then Q (.tuple #[]) h else False) (fun h => bif [].all boxV then Q (.tuple #[]) h else False)
theorem y8xm (x0 x1 : Value) (h : H) (Q : K1) (H0 : y4lu x0 x1 h Q) : AM.Spec PG y7o9 [x0, x1] h Q :=
  yqxt mixed (fn := Tryz.f159) Tryz.func159 (c := ygjk Tryz.f159.body) (rs := []) (N := 26) (by kernel_rfl) (by kernel_rfl) (by kernel_rfl) (by kernel_rfl) (by kernel_rfl) (Nat.le_of_ble_eq_true rfl) (yklq (fun h => bif [].all boxV then Q (.tuple #[]) h else False) (fun h => bif [].all boxV then Q (.tuple #[]) h else False) (tinit [x0, x1]) h H0) (by kernel_rfl)
def yoaj (x0 x3 : Value) (h : H) (Kn : K1) (Kr : K0) : Prop :=
  u_pf false 1 1 x0 h fun v23 => u_bf false 1 4 x3 h fun v25 => y2x6 .u32 v25 fun v26 => u_bin PG .add ycpa v23 v26 fun v27 => yjdf PG y1cr [x0, (.int .i64 10), (.int .i64 0), (.int .i64 2), (.int .i64 0), v27] h fun v28 h => Kn x0 h
theorem yxtv (Kn : K1) (Kr : K0) (t : T) (h : H) (H0 : yoaj (t 0) (t 3) h Kn Kr) : Wp PG 31 (seqL (rest 4 (ygjk Tryz.f160.body))) (mkQ (q1 Kn 0) (q0 Kr) ke0) t h :=
  ybop E5_ok [0, 1, 2, 3, 4, 5, 6, 7, 8, 9] (by kernel_rfl) (by kernel_rfl) H0 (by kernel_rfl)
def y96a (x0 : Value) (h : H) (Kn : K0) (Kr : K0) : Prop :=
  yjdf PG y1cr [x0, (.int .i64 9), (.int .i64 0), (.int .i64 0), (.int .i64 0), (.int .u32 0)] h fun v30 h => Kn h
theorem ya9s (Kn : K0) (Kr : K0) (t : T) (h : H) (H0 : y96a (t 0) h Kn Kr) : Wp PG 31 (seqR (rest 4 (ygjk Tryz.f160.body))) (mkQ (q0 Kn) (q0 Kr) ke0) t h :=
  wpEqC E5_ok H0 (by kernel_rfl)
def y0k9 (x0 x3 : Value) (h : H) (Kn : K0) (Kr : K0) : Prop :=
  yoaj x0 x3 h (fun y0 h => y96a y0 h Kn Kr) Kr
theorem ymyn (Kn : K0) (Kr : K0) (t : T) (h : H) (H0 : y0k9 (t 0) (t 3) h Kn Kr) : Wp PG 31 (rest 4 (ygjk Tryz.f160.body)) (mkQ (q0 Kn) (q0 Kr) ke0) t h :=
  ykv2 (by kernel_rfl) (fun t h H1 => ya9s Kn Kr t h H1) (yxtv (fun y0 h => y96a y0 h Kn Kr) Kr t h H0)
def y66g (x0 x1 : Value) (h : H) (Kn : K0) (Kr : K0) : Prop :=
  boxV x1 = true ∧ u_new (Value.cells x1).toList yc0x .exact h fun b3 h => u_bf false 1 2 (.pointer (some ⟨b3, 0, none⟩)) h fun v6 => yjdf PG yrw2 [x0, (.int .i64 0), v6] h fun v7 h => u_bf false 1 3 (.pointer (some ⟨b3, 0, none⟩)) h fun v10 => yjdf PG yrw2 [x0, (.int .i64 1), v10] h fun v11 h => ysnr PG ycrj [(0, (.int .u32 0)), (1, (.int .u32 1)), (2, (.int .u32 4)), (3, (.int .u32 5)), (4, (.int .u32 6)), (5, (.int .u32 7))] fun v13 => u_bf false 1 0 (.pointer (some ⟨b3, 0, none⟩)) h fun v15 => u_bin PG .sub T_int v15 (.int .i64 5) fun v16 => ywq9 false 6 false 1 v13 v16 fun v17 => yjdf PG y1cr [x0, (.int .i64 5), (.int .i64 2), (.int .i64 0), (.int .i64 1), v17] h fun v18 h => y0k9 x0 (.pointer (some ⟨b3, 0, none⟩)) h Kn Kr
theorem ymh2 (Kn : K0) (Kr : K0) (t : T) (h : H) (H0 : y66g (t 0) (t 1) h Kn Kr) : Wp PG 31 (ygjk Tryz.f160.body) (mkQ (q0 Kn) (q0 Kr) ke0) t h :=
  yvnp E5_ok 4 H0 (by kernel_rfl) (fun t h (H1 : y0k9 (t 0) (t 3) h Kn Kr) => ymyn Kn Kr t h H1) (by kernel_rfl)
def yak3 (x0 x1 : Value) (h : H) (Q : K1) : Prop := y66g x0 x1 h (fun h => bif [].all boxV then Q (.tuple #[]) h else False) (fun h => bif [].all boxV then Q (.tuple #[]) h else False)
theorem y1k3 (x0 x1 : Value) (h : H) (Q : K1) (H0 : yak3 x0 x1 h Q) : AM.Spec PG ymae [x0, x1] h Q :=
  yqxt mixed (fn := Tryz.f160) Tryz.func160 (c := ygjk Tryz.f160.body) (rs := []) (N := 31) (by kernel_rfl) (by kernel_rfl) (by kernel_rfl) (by kernel_rfl) (by kernel_rfl) (Nat.le_of_ble_eq_true rfl) (ymh2 (fun h => bif [].all boxV then Q (.tuple #[]) h else False) (fun h => bif [].all boxV then Q (.tuple #[]) h else False) (tinit [x0, x1]) h H0) (by kernel_rfl)
def yf79 (x0 x1 : Value) (h : H) (Kn : K0) (Kr : K0) : Prop :=
  boxV x1 = true ∧ u_new (Value.cells x1).toList yc0x .exact h fun b3 h => ybqh true 5 (.pointer (some ⟨b3, 0, none⟩)) h fun v8 => yjdf PG ygwt [x0, v8] h fun v9 h => u_bf false 1 0 (.pointer (some ⟨b3, 0, none⟩)) h fun v12 => u_ct y3yw [v12] h fun v13 h => yvu8 v13 0 fun v14 => yvu8 v13 1 fun v15 => y2x6 .u32 v14 fun v17 => u_bf false 1 0 (.pointer (some ⟨b3, 0, none⟩)) h fun v19 => u_ct yda5 [v19] h fun v20 h => u_if v20 (u_bf false 1 3 (.pointer (some ⟨b3, 0, none⟩)) h fun v23 => yjdf PG yrw2 [x0, (.int .i64 3), v23] h fun v24 h => yjdf PG y1cr [x0, (.int .i64 7), (.int .i64 0), (.int .i64 2), (.int .i64 3), v17] h fun v27 h => yjdf PG y1cr [x0, (.int .i64 9), (.int .i64 0), (.int .i64 0), (.int .i64 0), (.int .u32 0)] h fun v29 h => Kr h) (u_if v15 (u_bin PG .or ycpa v17 (.int .u32 8) fun v32 => yjdf PG y1cr [x0, (.int .i64 6), (.int .i64 3), (.int .i64 2), (.int .i64 0), v32] h fun v35 h => u_bf false 1 1 (.pointer (some ⟨b3, 0, none⟩)) h fun v38 => yjdf PG yzfg [x0, v38, (.int .i64 3)] h fun v39 h => Kn h) (yjdf PG y1cr [x0, (.int .i64 6), (.int .i64 3), (.int .i64 2), (.int .i64 0), v17] h fun v35 h => u_bf false 1 1 (.pointer (some ⟨b3, 0, none⟩)) h fun v38 => yjdf PG yzfg [x0, v38, (.int .i64 3)] h fun v39 h => Kn h))
theorem ykil (Kn : K0) (Kr : K0) (t : T) (h : H) (H0 : yf79 (t 0) (t 1) h Kn Kr) : Wp PG 40 (ygjk Tryz.f161.body) (mkQ (q0 Kn) (q0 Kr) ke0) t h :=
  wpEqC E5_ok H0 (by kernel_rfl)
def y2cs (x0 x1 : Value) (h : H) (Q : K1) : Prop := yf79 x0 x1 h (fun h => bif [].all boxV then Q (.tuple #[]) h else False) (fun h => bif [].all boxV then Q (.tuple #[]) h else False)
theorem ynp3 (x0 x1 : Value) (h : H) (Q : K1) (H0 : y2cs x0 x1 h Q) : AM.Spec PG yls4 [x0, x1] h Q :=
  yqxt mixed (fn := Tryz.f161) Tryz.func161 (c := ygjk Tryz.f161.body) (rs := []) (N := 40) (by kernel_rfl) (by kernel_rfl) (by kernel_rfl) (by kernel_rfl) (by kernel_rfl) (Nat.le_of_ble_eq_true rfl) (ykil (fun h => bif [].all boxV then Q (.tuple #[]) h else False) (fun h => bif [].all boxV then Q (.tuple #[]) h else False) (tinit [x0, x1]) h H0) (by kernel_rfl)
def yh2w (x0 x1 : Value) (h : H) (Kn : K0) (Kr : K0) : Prop :=
  boxV x1 = true ∧ u_new (Value.cells x1).toList yc0x .exact h fun b3 h => u_bf false 1 0 (.pointer (some ⟨b3, 0, none⟩)) h fun v8 => u_ct ywpv [v8] h fun v9 h => yvu8 v9 0 fun v10 => yvu8 v9 1 fun v11 => u_bf false 1 2 (.pointer (some ⟨b3, 0, none⟩)) h fun v14 => yjdf PG yrw2 [x0, (.int .i64 0), v14] h fun v15 h => u_bf false 1 0 (.pointer (some ⟨b3, 0, none⟩)) h fun v17 => u_bin PG .leq T_int v17 (.int .i64 27) fun v18 => u_if v18 (u_bf false 1 4 (.pointer (some ⟨b3, 0, none⟩)) h fun v21 => y2x6 .u32 v21 fun v22 => yjdf PG yaf9 [x0, (.int .i64 1), v22] h fun v23 h => y2x6 .u32 v10 fun v30 => yjdf PG y1cr [x0, (.int .i64 4), (.int .i64 2), (.int .i64 0), (.int .i64 1), v30] h fun v31 h => u_bf false 1 1 (.pointer (some ⟨b3, 0, none⟩)) h fun v34 => yjdf PG yzfg [x0, v34, (.int .i64 2)] h fun v35 h => Kn h) (u_bf false 1 3 (.pointer (some ⟨b3, 0, none⟩)) h fun v26 => yjdf PG yrw2 [x0, (.int .i64 1), v26] h fun v27 h => y2x6 .u32 v10 fun v30 => yjdf PG y1cr [x0, (.int .i64 4), (.int .i64 2), (.int .i64 0), (.int .i64 1), v30] h fun v31 h => u_bf false 1 1 (.pointer (some ⟨b3, 0, none⟩)) h fun v34 => yjdf PG yzfg [x0, v34, (.int .i64 2)] h fun v35 h => Kn h)
theorem yup7 (Kn : K0) (Kr : K0) (t : T) (h : H) (H0 : yh2w (t 0) (t 1) h Kn Kr) : Wp PG 36 (ygjk Tryz.f162.body) (mkQ (q0 Kn) (q0 Kr) ke0) t h :=
  wpEqC E5_ok H0 (by kernel_rfl)
def yqy2 (x0 x1 : Value) (h : H) (Q : K1) : Prop := yh2w x0 x1 h (fun h => bif [].all boxV then Q (.tuple #[]) h else False) (fun h => bif [].all boxV then Q (.tuple #[]) h else False)
theorem ynti (x0 x1 : Value) (h : H) (Q : K1) (H0 : yqy2 x0 x1 h Q) : AM.Spec PG yrtp [x0, x1] h Q :=
  yqxt mixed (fn := Tryz.f162) Tryz.func162 (c := ygjk Tryz.f162.body) (rs := []) (N := 36) (by kernel_rfl) (by kernel_rfl) (by kernel_rfl) (by kernel_rfl) (by kernel_rfl) (Nat.le_of_ble_eq_true rfl) (yup7 (fun h => bif [].all boxV then Q (.tuple #[]) h else False) (fun h => bif [].all boxV then Q (.tuple #[]) h else False) (tinit [x0, x1]) h H0) (by kernel_rfl)
def ya1p (x0 x3 : Value) (h : H) (Kn : K0) (Kr : K0) (Ke0 : K0) : Prop :=
  u_bf false 1 4 x3 h fun v20 => y2x6 .u32 v20 fun v21 => yjdf PG yaf9 [x0, (.int .i64 0), v21] h fun v22 h => u_bf false 1 1 x3 h fun v25 => yjdf PG yzfg [x0, v25, (.int .i64 0)] h fun v26 h => Kn h
theorem y60b (Kn : K0) (Kr : K0) (Ke0 : K0) (t : T) (h : H) (H0 : ya1p (t 0) (t 3) h Kn Kr Ke0) : Wp PG 96 (cndX (rest 1 (blkC (rest 3 (ygjk Tryz.f51.body))))) (mkQ (q0 Kn) (q0 Kr) (keAdd 0 (q0 Ke0) ke0)) t h :=
  wpEqC E5_ok H0 (by kernel_rfl)
def ywfg (x0 x3 : Value) (h : H) (Kn : K2) (Kr : K0) (Ke0 : K0) : Prop :=
  u_pf false 1 1 x0 h fun v34 => u_bf false 1 4 x3 h fun v36 => y2x6 .u32 v36 fun v37 => u_bin PG .add ycpa v34 v37 fun v38 => yjdf PG yaf9 [x0, (.int .i64 0), v38] h fun v39 h => Kn x0 x3 h
theorem yqm6 (Kn : K2) (Kr : K0) (Ke0 : K0) (t : T) (h : H) (H0 : ywfg (t 0) (t 3) h Kn Kr Ke0) : Wp PG 96 (seqL (cndX (rest 1 (cndY (rest 1 (blkC (rest 3 (ygjk Tryz.f51.body)))))))) (mkQ (q2 Kn 0 3) (q0 Kr) (keAdd 0 (q0 Ke0) ke0)) t h :=
  ybop E5_ok [0, 1, 2, 3, 4, 5, 6, 7, 8, 9] (by kernel_rfl) (by kernel_rfl) H0 (by kernel_rfl)
def y2zk (x0 x3 : Value) (h : H) (Kn : K0) (Kr : K0) (Ke0 : K0) : Prop :=
  u_bf false 1 1 x3 h fun v42 => yjdf PG yzfg [x0, v42, (.int .i64 0)] h fun v43 h => Kn h
theorem ytk1 (Kn : K0) (Kr : K0) (Ke0 : K0) (t : T) (h : H) (H0 : y2zk (t 0) (t 3) h Kn Kr Ke0) : Wp PG 96 (seqR (cndX (rest 1 (cndY (rest 1 (blkC (rest 3 (ygjk Tryz.f51.body)))))))) (mkQ (q0 Kn) (q0 Kr) (keAdd 0 (q0 Ke0) ke0)) t h :=
  wpEqC E5_ok H0 (by kernel_rfl)
def y1aw (x0 x3 : Value) (h : H) (Kn : K0) (Kr : K0) (Ke0 : K0) : Prop :=
  ywfg x0 x3 h (fun y0 y3 h => y2zk y0 y3 h Kn Kr Ke0) Kr Ke0
theorem ysng (Kn : K0) (Kr : K0) (Ke0 : K0) (t : T) (h : H) (H0 : y1aw (t 0) (t 3) h Kn Kr Ke0) : Wp PG 96 (cndX (rest 1 (cndY (rest 1 (blkC (rest 3 (ygjk Tryz.f51.body))))))) (mkQ (q0 Kn) (q0 Kr) (keAdd 0 (q0 Ke0) ke0)) t h :=
  ykv2 (by kernel_rfl) (fun t h H1 => ytk1 Kn Kr Ke0 t h H1) (yqm6 (fun y0 y3 h => y2zk y0 y3 h Kn Kr Ke0) Kr Ke0 t h H0)
def ypgy (x0 x3 x4 : Value) (h : H) (Kn : K0) (Kr : K0) (Ke0 : K0) : Prop :=
  u_bin PG .eql T_int x4 (.int .i64 3) fun v46 => u_if v46 (ybqh true 5 x3 h fun v48 => yjdf PG y9rb [x0, v48] h fun v49 h => Kn h) (u_bin PG .eql T_int x4 (.int .i64 4) fun v52 => u_if v52 (ybqh true 5 x3 h fun v54 => yjdf PG y7o9 [x0, v54] h fun v55 h => Kn h) (u_bin PG .geq T_int x4 (.int .i64 5) fun v58 => ydv6 v58 true (fun k4 => u_bin PG .leq T_int x4 (.int .i64 10) fun v61 => k4 v61 h) (fun v61 h => y9rg v58 v61 (.bool false) fun v62 => u_if v62 (ybqh true 5 x3 h fun v64 => yjdf PG ymae [x0, v64] h fun v65 h => Kn h) (u_bin PG .geq T_int x4 (.int .i64 11) fun v68 => ydv6 v68 true (fun k4 => u_bin PG .leq T_int x4 (.int .i64 18) fun v71 => k4 v71 h) (fun v71 h => y9rg v68 v71 (.bool false) fun v72 => u_if v72 (ybqh true 5 x3 h fun v74 => yjdf PG yls4 [x0, v74] h fun v75 h => Kn h) (u_bin PG .geq T_int x4 (.int .i64 19) fun v78 => ydv6 v78 true (fun k4 => u_bin PG .leq T_int x4 (.int .i64 45) fun v81 => k4 v81 h) (fun v81 h => y9rg v78 v81 (.bool false) fun v82 => u_if v82 (ybqh true 5 x3 h fun v84 => yjdf PG yrtp [x0, v84] h fun v85 h => Kn h) (u_bin PG .eql T_int x4 (.int .i64 48) fun v88 => u_if v88 (yjdf PG y1cr [x0, (.int .i64 13), (.int .i64 0), (.int .i64 0), (.int .i64 0), (.int .u32 5)] h fun v90 h => Kn h) (u_bin PG .eql T_int x4 (.int .i64 49) fun v93 => u_if v93 (yjdf PG y1cr [x0, (.int .i64 13), (.int .i64 0), (.int .i64 0), (.int .i64 0), (.int .u32 6)] h fun v95 h => Kn h) (yjdf PG y1cr [x0, (.int .i64 9), (.int .i64 0), (.int .i64 0), (.int .i64 0), (.int .u32 0)] h fun v14 h => Kn h)))) h)) h)) h))
theorem ydsk (Kn : K0) (Kr : K0) (Ke0 : K0) (t : T) (h : H) (H0 : ypgy (t 0) (t 3) (t 4) h Kn Kr Ke0) : Wp PG 96 (cndY (rest 1 (cndY (rest 1 (blkC (rest 3 (ygjk Tryz.f51.body))))))) (mkQ (q0 Kn) (q0 Kr) (keAdd 0 (q0 Ke0) ke0)) t h :=
  wpEqC E5_ok H0 (by kernel_rfl)
def yaw9 (x0 x3 x4 x27 : Value) (h : H) (Kn : K0) (Kr : K0) (Ke0 : K0) : Prop :=
  u_if x27 (y1aw x0 x3 h Kn Kr Ke0) (ypgy x0 x3 x4 h Kn Kr Ke0)
theorem y8nt (Kn : K0) (Kr : K0) (Ke0 : K0) (t : T) (h : H) (H0 : yaw9 (t 0) (t 3) (t 4) (t 27) h Kn Kr Ke0) : Wp PG 96 (rest 1 (cndY (rest 1 (blkC (rest 3 (ygjk Tryz.f51.body)))))) (mkQ (q0 Kn) (q0 Kr) (keAdd 0 (q0 Ke0) ke0)) t h :=
  yh47 H0 (by kernel_rfl) (ysng Kn Kr Ke0 t h) (ydsk Kn Kr Ke0 t h) (by kernel_rfl)
def y12u (x0 x3 x4 : Value) (h : H) (Kn : K0) (Kr : K0) (Ke0 : K0) : Prop :=
  u_bin PG .eql T_int x4 (.int .i64 2) fun v29 => yaw9 x0 x3 x4 v29 h Kn Kr Ke0
theorem y8ng (Kn : K0) (Kr : K0) (Ke0 : K0) (t : T) (h : H) (H0 : y12u (t 0) (t 3) (t 4) h Kn Kr Ke0) : Wp PG 96 (cndY (rest 1 (blkC (rest 3 (ygjk Tryz.f51.body))))) (mkQ (q0 Kn) (q0 Kr) (keAdd 0 (q0 Ke0) ke0)) t h :=
  yvnp E5_ok 1 H0 (by kernel_rfl) (fun t h (H1 : yaw9 (t 0) (t 3) (t 4) (t 27) h Kn Kr Ke0) => y8nt Kn Kr Ke0 t h H1) (by kernel_rfl)
def ywv5 (x0 x3 x4 x15 : Value) (h : H) (Kn : K0) (Kr : K0) (Ke0 : K0) : Prop :=
  u_if x15 (ya1p x0 x3 h Kn Kr Ke0) (y12u x0 x3 x4 h Kn Kr Ke0)
theorem yhar (Kn : K0) (Kr : K0) (Ke0 : K0) (t : T) (h : H) (H0 : ywv5 (t 0) (t 3) (t 4) (t 15) h Kn Kr Ke0) : Wp PG 96 (rest 1 (blkC (rest 3 (ygjk Tryz.f51.body)))) (mkQ (q0 Kn) (q0 Kr) (keAdd 0 (q0 Ke0) ke0)) t h :=
  yh47 H0 (by kernel_rfl) (y60b Kn Kr Ke0 t h) (y8ng Kn Kr Ke0 t h) (by kernel_rfl)
def ykeo (x0 x3 x4 : Value) (h : H) (Kn : K0) (Kr : K0) (Ke0 : K0) : Prop :=
  u_bin PG .eql T_int x4 (.int .i64 1) fun v17 => ywv5 x0 x3 x4 v17 h Kn Kr Ke0
theorem y02u (Kn : K0) (Kr : K0) (Ke0 : K0) (t : T) (h : H) (H0 : ykeo (t 0) (t 3) (t 4) h Kn Kr Ke0) : Wp PG 96 (blkC (rest 3 (ygjk Tryz.f51.body))) (mkQ (q0 Kn) (q0 Kr) (keAdd 0 (q0 Ke0) ke0)) t h :=
  yvnp E5_ok 1 H0 (by kernel_rfl) (fun t h (H1 : ywv5 (t 0) (t 3) (t 4) (t 15) h Kn Kr Ke0) => yhar Kn Kr Ke0 t h H1) (by kernel_rfl)
def y4sp (x0 x3 x4 : Value) (h : H) (Kn : K0) (Kr : K0) : Prop :=
  ykeo x0 x3 x4 h Kn Kr Kn
theorem y3l2 (Kn : K0) (Kr : K0) (t : T) (h : H) (H0 : y4sp (t 0) (t 3) (t 4) h Kn Kr) : Wp PG 96 (rest 3 (ygjk Tryz.f51.body)) (mkQ (q0 Kn) (q0 Kr) ke0) t h :=
  y6tu 0 (by kernel_rfl) (by kernel_rfl) (y02u Kn Kr Kn t h H0)
def yka2 (x0 x1 : Value) (h : H) (Kn : K0) (Kr : K0) : Prop :=
  boxV x1 = true ∧ u_new (Value.cells x1).toList yc0x .exact h fun b3 h => u_pf false 1 1 x0 h fun v9 => yjdf PG y1cr [x0, (.int .i64 8), (.int .i64 0), (.int .i64 0), (.int .i64 0), v9] h fun v10 h => u_bf false 1 0 (.pointer (some ⟨b3, 0, none⟩)) h fun v12 => y4sp x0 (.pointer (some ⟨b3, 0, none⟩)) v12 h Kn Kr
theorem yord (Kn : K0) (Kr : K0) (t : T) (h : H) (H0 : yka2 (t 0) (t 1) h Kn Kr) : Wp PG 96 (ygjk Tryz.f51.body) (mkQ (q0 Kn) (q0 Kr) ke0) t h :=
  yvnp E5_ok 3 H0 (by kernel_rfl) (fun t h (H1 : y4sp (t 0) (t 3) (t 4) h Kn Kr) => y3l2 Kn Kr t h H1) (by kernel_rfl)
def yali (x0 x1 : Value) (h : H) (Q : K1) : Prop := yka2 x0 x1 h (fun h => bif [].all boxV then Q (.tuple #[]) h else False) (fun h => bif [].all boxV then Q (.tuple #[]) h else False)
theorem yinc (x0 x1 : Value) (h : H) (Q : K1) (H0 : yali x0 x1 h Q) : AM.Spec PG y76q [x0, x1] h Q :=
  yqxt mixed (fn := Tryz.f51) Tryz.func51 (c := ygjk Tryz.f51.body) (rs := []) (N := 96) (by kernel_rfl) (by kernel_rfl) (by kernel_rfl) (by kernel_rfl) (by kernel_rfl) (Nat.le_of_ble_eq_true rfl) (yord (fun h => bif [].all boxV then Q (.tuple #[]) h else False) (fun h => bif [].all boxV then Q (.tuple #[]) h else False) (tinit [x0, x1]) h H0) (by kernel_rfl)
def ytn3 (x3 x16 x17 x18 : Value) (h : H) (Kn : K4) (Kr : K1) (Ke0 : K1) : Prop :=
  u_bin PG .lss T_int x18 x17 fun v19 => u_if v19 (u_ix true 5 none x16 x18 h fun v21 => u_new [.int .i64 0, .int .i64 0, .int .i64 0, .int .i64 0, .int .i32 0] yc0x .exact h fun b5 h => ylel 5 (.pointer (some ⟨b5, 0, none⟩)) v21 h fun h => ybqh true 5 (.pointer (some ⟨b5, 0, none⟩)) h fun v23 => yjdf PG y76q [x3, v23] h fun v24 h => u_pf false 1 1 x3 h fun v28 => u_bin PG .add ycpa v28 (.int .u32 4) fun v29 => y394 x3 fun v30 => u_st 1 1 v30 v29 h fun h => u_bin PG .add T_int x18 (.int .i64 1) fun v32 => Kn x3 x16 x17 v32 h) (Ke0 x3 h)
theorem yq63 (Kn : K4) (Kr : K1) (Ke0 : K1) (t : T) (h : H) (H0 : ytn3 (t 3) (t 16) (t 17) (t 18) h Kn Kr Ke0) : Wp PG 62 (lopC (blkC (rest 1 (seqL (rest 3 (ygjk Tryz.f13.body)))))) (mkQ (q4 Kn 3 16 17 18) (q1 Kr 2) (keAdd 0 (q1 Ke0 3) ke0)) t h :=
  wpEqC E5_ok H0 (by kernel_rfl)
def ynsh (x3 x16 x17 x18 : Value) (h : H) (Kn : K1) (Kr : K1) (Ke0 : K1) : Prop :=
  sloop (S := Value × Value × Value × Value) (fun s h K => ytn3 s.1 s.2.1 s.2.2.1 s.2.2.2 h (fun y3 y16 y17 y18 h => K (y3, y16, y17, y18) h) Kr Ke0) (x3, x16, x17, x18) h
theorem ytyb (Kn : K1) (Kr : K1) (Ke0 : K1) (t : T) (h : H) (H0 : ynsh (t 3) (t 16) (t 17) (t 18) h Kn Kr Ke0) : Wp PG 62 (blkC (rest 1 (seqL (rest 3 (ygjk Tryz.f13.body))))) (mkQ (q1 Kn 3) (q1 Kr 2) (keAdd 0 (q1 Ke0 3) ke0)) t h :=
  yv0a (fun t => (t 3, t 16, t 17, t 18)) (by kernel_rfl) (fun t h K H1 => yq63 (fun y3 y16 y17 y18 h => K (y3, y16, y17, y18) h) Kr Ke0 t h H1) H0
def ya2i (x3 x16 x17 x18 : Value) (h : H) (Kn : K1) (Kr : K1) : Prop :=
  ynsh x3 x16 x17 x18 h Kn Kr Kn
theorem y1qz (Kn : K1) (Kr : K1) (t : T) (h : H) (H0 : ya2i (t 3) (t 16) (t 17) (t 18) h Kn Kr) : Wp PG 62 (rest 1 (seqL (rest 3 (ygjk Tryz.f13.body)))) (mkQ (q1 Kn 3) (q1 Kr 2) ke0) t h :=
  y6tu 0 (by kernel_rfl) (by kernel_rfl) (ytyb Kn Kr Kn t h H0)
def y896 (x1 x3 : Value) (h : H) (Kn : K1) (Kr : K1) : Prop :=
  u_bf false 1 1 x1 h fun v16 => ywmm v16 fun v17 => ya2i x3 v16 v17 (.int .i64 0) h Kn Kr
theorem yf2x (Kn : K1) (Kr : K1) (t : T) (h : H) (H0 : y896 (t 1) (t 3) h Kn Kr) : Wp PG 62 (seqL (rest 3 (ygjk Tryz.f13.body))) (mkQ (q1 Kn 3) (q1 Kr 2) ke0) t h :=
  yvnp E5_ok 1 H0 (by kernel_rfl) (fun t h (H1 : ya2i (t 3) (t 16) (t 17) (t 18) h Kn Kr) => y1qz Kn Kr t h H1) (by kernel_rfl)
def ybk7 (x3 : Value) (h : H) (Kn : K2) (Kr : K1) : Prop :=
  u_pf false 1 0 x3 h fun v36 => u_pf false 1 0 x3 h fun v40 => ywmm v40 fun v41 => u_bin PG .sub T_int v41 (.int .i64 1) fun v42 => u_ixf false 1 0 none 5 v36 v42 h fun v45 => Kn x3 v45 h
theorem y2v6 (Kn : K2) (Kr : K1) (t : T) (h : H) (H0 : ybk7 (t 3) h Kn Kr) : Wp PG 62 (seqL (seqL (seqR (rest 3 (ygjk Tryz.f13.body))))) (mkQ (q2 Kn 3 6) (q1 Kr 2) ke0) t h :=
  ybop E5_ok [0, 1, 2, 3, 4, 5, 6, 7, 8, 9, 10, 11, 12, 13] (by kernel_rfl) (by kernel_rfl) H0 (by kernel_rfl)
def yym3 (x3 x6 : Value) (h : H) (Kn : K1) (Kr : K1) : Prop :=
  u_bin PG .lss T_int x6 (.int .i64 11) fun v47 => ydv6 v47 false (fun k4 => u_bin PG .gtr T_int x6 (.int .i64 13) fun v50 => k4 v50 h) (fun v50 h => y9rg v47 (.bool true) v50 fun v51 => u_if v51 (u_pf false 1 1 x3 h fun v56 => yjdf PG y1cr [x3, (.int .i64 12), (.int .i64 0), (.int .i64 0), (.int .i64 0), v56] h fun v57 h => Kn x3 h) (Kn x3 h)) h
theorem yv1t (Kn : K1) (Kr : K1) (t : T) (h : H) (H0 : yym3 (t 3) (t 6) h Kn Kr) : Wp PG 62 (seqR (seqL (seqR (rest 3 (ygjk Tryz.f13.body))))) (mkQ (q1 Kn 3) (q1 Kr 2) ke0) t h :=
  wpEqC E5_ok H0 (by kernel_rfl)
def y6mk (x3 : Value) (h : H) (Kn : K1) (Kr : K1) : Prop :=
  ybk7 x3 h (fun y3 y6 h => yym3 y3 y6 h Kn Kr) Kr
theorem yd8f (Kn : K1) (Kr : K1) (t : T) (h : H) (H0 : y6mk (t 3) h Kn Kr) : Wp PG 62 (seqL (seqR (rest 3 (ygjk Tryz.f13.body)))) (mkQ (q1 Kn 3) (q1 Kr 2) ke0) t h :=
  ykv2 (by kernel_rfl) (fun t h H1 => yv1t Kn Kr t h H1) (y2v6 (fun y3 y6 h => yym3 y3 y6 h Kn Kr) Kr t h H0)
def yh6b (x3 : Value) (h : H) (Kn : K1) (Kr : K1) : Prop :=
  u_pf false 1 0 x3 h fun v61 => Kr v61 h
theorem yg8q (Kn : K1) (Kr : K1) (t : T) (h : H) (H0 : yh6b (t 3) h Kn Kr) : Wp PG 62 (seqR (seqR (rest 3 (ygjk Tryz.f13.body)))) (mkQ (q1 Kn 2) (q1 Kr 2) ke0) t h :=
  wpEqC E5_ok H0 (by kernel_rfl)
def y2mk (x3 : Value) (h : H) (Kn : K1) (Kr : K1) : Prop :=
  y6mk x3 h (fun y3 h => yh6b y3 h Kn Kr) Kr
theorem y16x (Kn : K1) (Kr : K1) (t : T) (h : H) (H0 : y2mk (t 3) h Kn Kr) : Wp PG 62 (seqR (rest 3 (ygjk Tryz.f13.body))) (mkQ (q1 Kn 2) (q1 Kr 2) ke0) t h :=
  ykv2 (by kernel_rfl) (fun t h H1 => yg8q Kn Kr t h H1) (yd8f (fun y3 h => yh6b y3 h Kn Kr) Kr t h H0)
def y9xi (x1 x3 : Value) (h : H) (Kn : K1) (Kr : K1) : Prop :=
  y896 x1 x3 h (fun y3 h => y2mk y3 h Kn Kr) Kr
theorem ykd0 (Kn : K1) (Kr : K1) (t : T) (h : H) (H0 : y9xi (t 1) (t 3) h Kn Kr) : Wp PG 62 (rest 3 (ygjk Tryz.f13.body)) (mkQ (q1 Kn 2) (q1 Kr 2) ke0) t h :=
  ykv2 (by kernel_rfl) (fun t h H1 => y16x Kn Kr t h H1) (yf2x (fun y3 h => y2mk y3 h Kn Kr) Kr t h H0)
def yk2y (x0 : Value) (h : H) (Kn : K1) (Kr : K1) : Prop :=
  boxV x0 = true ∧ u_new (Value.cells x0).toList yrjx .exact h fun b1 h => u_bf false 1 1 (.pointer (some ⟨b1, 0, none⟩)) h fun v8 => ywmm v8 fun v9 => u_bin PG .eql T_int v9 (.int .i64 0) fun v10 => u_if v10 (Kr (.slice none 0 0) h) (u_bf false 1 0 (.pointer (some ⟨b1, 0, none⟩)) h fun v12 => ysnr PG yhds [(1, v12)] fun v13 => boxV v13 = true ∧ u_new (Value.cells v13).toList yhds .exact h fun b14 h => y9xi (.pointer (some ⟨b1, 0, none⟩)) (.pointer (some ⟨b14, 0, none⟩)) h Kn Kr)
theorem ypnl (Kn : K1) (Kr : K1) (t : T) (h : H) (H0 : yk2y (t 0) h Kn Kr) : Wp PG 62 (ygjk Tryz.f13.body) (mkQ (q1 Kn 2) (q1 Kr 2) ke0) t h :=
  yvnp E5_ok 3 H0 (by kernel_rfl) (fun t h (H1 : y9xi (t 1) (t 3) h Kn Kr) => ykd0 Kn Kr t h H1) (by kernel_rfl)
def ylc2 (x0 : Value) (h : H) (Q : K1) : Prop := yk2y x0 h Q Q
theorem yaxt (x0 : Value) (h : H) (Q : K1) (H0 : ylc2 x0 h Q) : AM.Spec PG y849 [x0] h Q :=
  yqxt mixed (fn := Tryz.f13) Tryz.func13 (c := ygjk Tryz.f13.body) (rs := [2]) (N := 62) (by kernel_rfl) (by kernel_rfl) (by kernel_rfl) (by kernel_rfl) (by kernel_rfl) (Nat.le_of_ble_eq_true rfl) (ypnl Q Q (tinit [x0]) h H0) (by kernel_rfl)
end Go.Proofs.YtnckimioabkheaaGreat

set_option linter.unusedSimpArgs false
set_option linter.unusedVariables false
set_option maxRecDepth 100000
namespace Go.Proofs.YtnckimioabkheaaGreat
open AM
abbrev Ins := Int × Int × Int × Int × Int
def insC (i : Ins) : List Value := [.int .i64 i.1, .int .i64 i.2.1, .int .i64 i.2.2.1, .int .i64 i.2.2.2.1, .int .i32 i.2.2.2.2]
def endsB (i : Ins) : Bool := yesp i.1 i.2.1 i.2.2.1 i.2.2.2.1 i.2.2.2.2
def findL (μ : MS) (pc most : Int) : Nat → Int → List Ins → List Ins × (Int × Int × Int)
  | 0, _, l => (l, (0, 0, 0))
  | f + 1, at_, l =>
    if (l.length : Int) < most ∧ at_.tdiv 256 = pc.tdiv 256 then
      if (ysel μ at_).2.1 ≠ 0 then (if l = [] then ([], (ysel μ at_).2) else (l, (0, 0, 0)))
      else if endsB (ysel μ at_).1 then (l ++ [(ysel μ at_).1], (0, 0, 0))
      else findL μ pc most f (IntKind.u32.wrap (at_ + 4)) (l ++ [(ysel μ at_).1])
    else (l, (0, 0, 0))
def findF (μ : MS) (pc most : Int) : List Ins × (Int × Int × Int) := findL μ pc (min (max most 1) 64) 65 pc []
theorem ynow {x : Int} (h0 : 0 ≤ x) (h1 : x < 4294967296) : IntKind.u32.wrap (x.tdiv 256) = x.tdiv 256 := by
  rw [Int.tdiv_eq_ediv_of_nonneg h0]
  exact w_u32 (by omega) (by omega)
section
variable {D : MD} {h : H} {μ : MS} {K : K1}
theorem y2ht {h' : H} {v : Value} {l : List Ins} {pc gen : Int} {b6 b7 b8 : Nat} {Kn Kr : K3} (hs : Sub h h') (n1 : b7 ≠ b6) (hb6 : h b6 = none) (hb7 : h b7 = none) (e6 : h' b6 = some (.cells [.int .u32 0, .slice none 0 0, .int .u32 0] yrjx .exact))
    (e7 : h' b7 = some (.cells [.int .i64 0, .int .u32 0, .int .i64 0] ys2z .exact)) (e8 : h' b8 = some (.cells [.int .u32 pc, v, .int .u32 gen] yrjx .exact)) (hg : Gr insC 5 yc0x h h' v l)
    (hKr : Kr = fun y6 y7 y60 h => o_ret y60 h fun h => ybqh true 3 y6 h fun v0 => ybqh true 3 y7 h fun v1 => [v0, v1].all boxV = true ∧ K (.tuple #[v0, v1]) h)
    (hk : ∀ h', Sub h h' → Sl insC 5 h' v l → K (.tuple #[.agg #[.int .u32 pc, v, .int .u32 gen], evV (0, 0, 0)]) h') :
    y3t4 (ptr b6 0) (ptr b7 0) (ptr b8 0) undef h' Kn Kr := by
  subst hKr
  have hv := hg.sl.box
  have g2 := (hg.over e6 (q' := .cells [.int .u32 pc, v, .int .u32 gen] yrjx .exact) (by simp))
  have e7' : upd h' b6 (.cells [.int .u32 pc, v, .int .u32 gen] yrjx .exact) b7 = some (.cells [.int .i64 0, .int .u32 0, .int .i64 0] ys2z .exact) := by rw [yrkk _ _ n1]; exact e7
  have g3 := (g2.over e7' (q' := .cells [.int .i64 0, .int .u32 0, .int .i64 0] ys2z .exact) (by simp))
  simp (config := {dsimp := false}) [↓y3t4, yzql e8, e6, e7, n1, Ne.symm n1, hv]
  refine hk _ (Sub.upd (Sub.upd hs hb6) hb7) g3.sl
theorem _root_.Go.Proofs.YtnckimioabkheaaGreat.AM.Gr.cells1 {e : TypeId} {h0 h : H} {v : Value} {sz : Nat} {α : Type} {enc : α → List Value} {l : List α} (hg : Gr enc sz e h0 h v l) : v.cells = #[v] := by
  obtain ⟨_, ⟨_, rfl⟩ | ⟨b, _, _, rfl, _⟩⟩ := hg <;> rfl
theorem ybr9 {h2 : H} {x0 x1 x2 x9 x60 v : Value} {l : List Ins} {pc gen : Int} {i : Ins} {ev : Int × Int × Int} {b6 b7 b8 b10 b11 : Nat} {Kn Ke1 : K8} {Kr : K3} {Ke0 : K4}
    (c10 : h2 b10 = some (.cells (insC i) yc0x .exact)) (c11 : h2 b11 = some (.cells [.int .i64 ev.1, .int .u32 ev.2.1, .int .i64 ev.2.2] ys2z .exact))
    (n1 : b7 ≠ b6) (n2 : b8 ≠ b6) (n3 : b8 ≠ b7) (m6 : b11 ≠ b6) (m8 : b10 ≠ b8) (hb6 : h b6 = none) (hb7 : h b7 = none) (hb8 : h b8 = none)
    (e6 : h2 b6 = some (.cells [.int .u32 0, .slice none 0 0, .int .u32 0] yrjx .exact))
    (e7 : h2 b7 = some (.cells [.int .i64 0, .int .u32 0, .int .i64 0] ys2z .exact)) (e8 : h2 b8 = some (.cells [.int .u32 pc, v, .int .u32 gen] yrjx .exact))
    (hg : Gr insC 5 yc0x h h2 v l) (hs : Sub h h2) (hl : l.length < 64)
    (k1 : ev.1 ≠ 0 → l = [] → ∀ h', Sub h h' → h' b6 = some (.cells [.int .u32 0, .slice none 0 0, .int .u32 0] yrjx .exact) → h' b7 = some (.cells [.int .i64 ev.1, .int .u32 ev.2.1, .int .i64 ev.2.2] ys2z .exact) → Kr (ptr b6 0) (ptr b7 0) x60 h')
    (k2 : ev.1 ≠ 0 → l ≠ [] → Ke0 (ptr b6 0) (ptr b7 0) (ptr b8 0) x60 h2)
    (k3 : ev.1 = 0 → ∀ v' h', Gr insC 5 yc0x h h' v' (l ++ [i]) → Sub h h' → h' b6 = some (.cells [.int .u32 0, .slice none 0 0, .int .u32 0] yrjx .exact) →
      h' b7 = some (.cells [.int .i64 0, .int .u32 0, .int .i64 0] ys2z .exact) → h' b8 = some (.cells [.int .u32 pc, v', .int .u32 gen] yrjx .exact) →
      if endsB i = true then Ke0 (ptr b6 0) (ptr b7 0) (ptr b8 0) x60 h' else Kn x0 x1 x2 (ptr b6 0) (ptr b7 0) (ptr b8 0) x9 x60 h') :
    ytml x0 x1 x2 (ptr b6 0) (ptr b7 0) (ptr b8 0) x9 (ptr b10 0) (ptr b11 0) x60 h2 Kn Kr Ke1 Ke0 := by
  obtain ⟨i0, i1, i2, i3, i4⟩ := i
  obtain ⟨v0, v1, v2⟩ := ev
  unfold ytml
  simp (config := {dsimp := false}) only [insC] at c10 c11 k1 k2 k3
  by_cases hev : v0 = 0
  · have k3 := k3 hev
    simp (config := {dsimp := false}) [↓yqdk, ↓ysyq, ↓yq4b, ↓yrxt, yb3e c11, yb3e e8, yzql c10, hev]
    refine yw9z (x := (i0, i1, i2, i3, i4)) hg hs rfl (by omega) (by omega) (by omega) (fun v' h' g' s' hke hfr => ?_) rfl
    have e6' := hke _ _ e6 (hg.exact_ne e6)
    have e7' := hke _ _ e7 (hg.exact_ne e7)
    have e8' := hke _ _ e8 (hg.exact_ne e8)
    have d10 := hke _ _ c10 (hg.exact_ne c10)
    have d10' : ∀ q, upd h' b8 q b10 = some _ := fun q => (yrkk _ _ m8).trans d10
    have hv := g'.sl.box
    have hc := g'.cells1
    simp (config := {dsimp := false}) [e8', hv, yzql (d10' _), hc]
    have k := k3 v' _ (g'.over e8' (q' := .cells [.int .u32 pc, v', .int .u32 gen] yrjx .exact) (by simp)) (Sub.upd s' hb8) ((yrkk _ _ (Ne.symm n2)).trans e6') ((yrkk _ _ (Ne.symm n3)).trans e7') (by simp [upd])
    exact k
  · simp (config := {dsimp := false}) [↓yqdk, ↓ysyq, ↓yt27, ↓yfne, ↓y5bu, yb3e c11, yb3e e8, hg.sl.ulen, hev]
    split
    · rename_i hl0
      simp (config := {dsimp := false}) [↓y6lp, ↓y7yi, ↓yxgf, yb3e c11, yb3e e8, yzql c11, hev, e6, e7, n1, n2, n3, m6, Ne.symm n1]
      exact k1 hev hl0 _ (Sub.upd (Sub.upd hs hb6) hb7) (by rw [yrkk _ _ (Ne.symm n1)]; simp [upd]) (by simp [upd])
    · rename_i hl0
      simp (config := {dsimp := false}) [↓yhwb, ↓y9i3]
      exact k2 hev hl0
theorem y9xs {pc most : Int} (hm : MemAt D h μ) (hw : MSok μ) (ha : 0 ≤ pc) (ha2 : pc < 4294967296)
    (hk : ∀ v gen h', Sub h h' → Sl insC 5 h' v (findF μ pc most).1 → K (.tuple #[.agg #[.int .u32 (if (findF μ pc most).2.1 = 0 then pc else 0), v, .int .u32 gen], evV (findF μ pc most).2]) h') :
    AM.Spec PG yvbn [ptr D.q 0, .int .u32 pc, .int .i64 most] h K := by
  refine ysek _ _ _ _ _ ?_
  unfold y3fr yxge
  intro b6 h62 hb6 b7 h72 hb7
  have s1 : Sub h (upd h b6 (.cells [.int .u32 0, .slice none 0 0, .int .u32 0] yrjx .exact)) := Sub.new hb6
  have s2 := s1.newer (q := .cells [.int .i64 0, .int .u32 0, .int .i64 0] ys2z .exact) hb7
  simp only [s_max, s_min]
  refine ⟨rfl, ycvw (hm.sub s2) ?_⟩
  generalize ((fnd (yovn pc) μ.gens).getD 0) = gen
  have hR : findF μ pc most = findL μ pc (min (max most 1) 64) 65 pc [] := rfl
  have hm64 : min (max most 1) 64 ≤ 64 := by omega
  generalize min (max most 1) 64 = mst at *
  generalize findF μ pc most = R at *
  rw [ynej] at hb7
  obtain ⟨n1, n2, hb7⟩ := hb7
  simp (config := {dsimp := false, contextual := true}) [↓ynoy, ↓y0i9, ↓y4u0, ↓yogf, n1, n2, hb6, hb7]
  intro b8 h82 n3 n4 n5 n6 hb8
  refine yo1k 64 (fun i s h' => ∃ (v : Value) (l : List Ins) (at_ : Int), s = (ptr D.q 0, .int .u32 pc, .int .i64 mst, ptr b6 0, ptr b7 0, ptr b8 0, .int .u32 at_, undef) ∧ l.length = i ∧ Sub h h' ∧ h' b6 = some (.cells [.int .u32 0, .slice none 0 0, .int .u32 0] yrjx .exact) ∧
      h' b7 = some (.cells [.int .i64 0, .int .u32 0, .int .i64 0] ys2z .exact) ∧ h' b8 = some (.cells [.int .u32 pc, v, .int .u32 gen] yrjx .exact) ∧ Gr insC 5 yc0x h h' v l ∧ 0 ≤ at_ ∧ at_ < 4294967296 ∧ R = findL μ pc mst (65 - i) at_ l) ?_ ?_
  · refine ⟨.slice none 0 0, [], pc, rfl, rfl, ?_, ?_, ?_, ?_, Gr.empty, ha, ha2, hR⟩
    · repeat (first | exact Sub.refl _ | refine Sub.upd ?_ (by assumption))
    · simp [upd, n1, n2, n3, n4, n5, n6, Ne.symm n3, Ne.symm n5]
    · simp [upd, n1, n2, n3, n4, n5, n6]
    · simp [upd]
  · rintro i s h' K' hi ⟨v, l, at_, rfl, hl, hs, e6, e7, e8, hg, g1, g2, hr⟩ hk'
    obtain ⟨f, hf⟩ : ∃ f, 65 - i = f + 1 := ⟨64 - i, by omega⟩
    rw [hf, findL] at hr
    simp (config := {dsimp := false}) [↓y26c, yb3e e8, hg.sl.ulen, hl, ynow g1 g2, ynow ha ha2]
    rw [hl] at hr
    split
    · rename_i hc
      rw [if_pos hc] at hr
      unfold ybfi y6bj y6cd
      refine ⟨rfl, ybes (hm.sub hs) hw g1 g2 ?_⟩
      generalize ysel μ at_ = F at *
      obtain ⟨⟨i0, i1, i2, i3, i4⟩, ev0, ev1, ev2⟩ := F
      simp (config := {dsimp := false}) only [s_ex0, s_ex1, s_new]
      intro b10 _ hb10 b11 _ hb11
      rw [ynej] at hb11
      obtain ⟨m1, m2, hb11⟩ := hb11
      simp (config := {dsimp := false}) [insV, evV, m1, m2]
      have ne6 : b6 ≠ b10 ∧ b6 ≠ b11 := ⟨fun e => (by rw [e, hb10] at e6; cases e6), fun e => (by rw [e, hb11] at e6; cases e6)⟩
      have ne7 : b7 ≠ b10 ∧ b7 ≠ b11 := ⟨fun e => (by rw [e, hb10] at e7; cases e7), fun e => (by rw [e, hb11] at e7; cases e7)⟩
      have ne8 : b8 ≠ b10 ∧ b8 ≠ b11 := ⟨fun e => (by rw [e, hb10] at e8; cases e8), fun e => (by rw [e, hb11] at e8; cases e8)⟩
      have hgk : ∀ q1 q2 q3 q4, Gr insC 5 yc0x h (upd (upd (upd (upd h' b10 q1) b11 q2) b10 q3) b11 q4) v l := fun q1 q2 q3 q4 => hg.keep fun c hc => by
        have hcn := hg.there hc
        have c1 : c ≠ b10 := fun e => hcn (e ▸ hb10)
        have c2 : c ≠ b11 := fun e => hcn (e ▸ hb11)
        rw [yrkk _ _ c2, yrkk _ _ c1, yrkk _ _ c2, yrkk _ _ c1]
      have hkp : ∀ {c o} q1 q2 q3 q4, h' c = some o → c ≠ b10 ∧ c ≠ b11 → upd (upd (upd (upd h' b10 q1) b11 q2) b10 q3) b11 q4 c = some o := fun q1 q2 q3 q4 e c => by
        rw [yrkk _ _ c.2, yrkk _ _ c.1, yrkk _ _ c.2, yrkk _ _ c.1]; exact e
      have h10 := Sub.none hs hb10
      have h11 := Sub.none hs hb11
      refine ybr9 (h := h) (i := (i0, i1, i2, i3, i4)) (ev := (ev0, ev1, ev2)) (v := v) (l := l) (pc := pc) (gen := gen) (by rw [yrkk _ _ (by assumption)]; simp [upd, insC]) (by simp [upd]) n1 n5 n3 (Ne.symm ne6.2) (Ne.symm ne8.1) hb6 hb7 hb8 (hkp _ _ _ _ e6 ne6) (hkp _ _ _ _ e7 ne7) (hkp _ _ _ _ e8 ne8) (hgk _ _ _ _)
        (Sub.upd (Sub.upd (Sub.upd (Sub.upd hs h10) h11) h10) h11) (by omega) ?_ ?_ ?_
      · rintro q1 rfl h3 s3 t6 t7
        simp only [ne_eq] at q1
        rw [if_pos q1, if_pos rfl] at hr
        subst hr
        simp (config := {dsimp := false}) [yzql t6, yzql t7]
        have k := hk (.slice none 0 0) 0 h3 s3 Sl.nil
        simp only [if_neg q1] at k
        exact k
      · intro q1 q2
        simp only [ne_eq] at q1
        rw [if_pos q1, if_neg q2] at hr
        subst hr
        refine y2ht (Sub.upd (Sub.upd (Sub.upd (Sub.upd hs h10) h11) h10) h11) n1 hb6 hb7 (hkp _ _ _ _ e6 ne6) (hkp _ _ _ _ e7 ne7) (hkp _ _ _ _ e8 ne8) (hgk _ _ _ _) rfl fun h2 q1 q2 => hk v gen h2 q1 q2
      · intro q1 v' h3 g3 s3 t6 t7 t8
        simp only at q1
        rw [if_neg (by simp [q1])] at hr
        split
        · rename_i q2
          rw [if_pos q2] at hr
          subst hr
          exact y2ht s3 n1 hb6 hb7 t6 t7 t8 g3 rfl fun h2 q1 q2 => hk v' gen h2 q1 q2
        · rename_i q2
          rw [if_neg q2] at hr
          obtain ⟨hc1, hc2⟩ := hc
          have hi' : i < 64 := by omega
          simp (config := {dsimp := false}) [↓yoap]
          refine hk' _ _ hi' ⟨v', _, _, rfl, by simp [hl], s3, t6, t7, t8, g3, ?_, ?_, ?_⟩
          · exact yd12
          · exact yina
          · have : f = 65 - (i + 1) := by omega
            rw [← this]; exact hr
    · rename_i hc
      rw [if_neg hc] at hr
      subst hr
      exact y2ht hs n1 hb6 hb7 e6 e7 e8 hg rfl fun h2 q1 q2 => hk v gen h2 q1 q2
end
end Go.Proofs.YtnckimioabkheaaGreat

