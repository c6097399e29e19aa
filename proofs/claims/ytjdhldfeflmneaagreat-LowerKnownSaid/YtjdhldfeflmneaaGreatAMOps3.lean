/-
  The operations in the abstract memory tell what the model's operations do: maps.
-/
import Derived.Test.YtjdhldfeflmneaaGreatAMOps2
set_option linter.unusedSimpArgs false
set_option linter.unusedVariables false
namespace Go.Proofs.YtjdhldfeflmneaaGreat.AM
open Go.RowKit
section
variable {P : Program} {W : World} {ι : Env} {h : H} {w : World}

def KK.desc : KK → TypeDesc
  | .int j => .int j
  | .str => .string
  | .bool => .bool
theorem kkOf_spec {kt : TypeId} {kk : KK} (hk : kkOf P kt = some kk) : P.underlying kt = some kk.desc := by
  unfold kkOf at hk
  split at hk <;> simp at hk <;> subst hk <;> assumption
theorem kkHas_self {kk : KK} {k : Value} (hk : kkHas kk k = true) : selfC k = true := by
  cases kk <;> cases k <;> simp_all [kkHas, selfC]
theorem kkHas_vrel {kk : KK} {k ck : Value} (hk : kkHas kk k = true) (h : VRel ι k ck) : ck = k :=
  crel_eq (kkHas_self hk) (h.cell (by cases kk <;> cases k <;> simp_all [kkHas, cellV]))
theorem run_checkKey' {kt : TypeId} {kk : KK} {k : Value} (hd : kkOf P kt = some kk) (hk : kkHas kk k = true) (e : Bool) (w : World) : (Instr.checkKey e 10000 kt k).run P w = .ok () w := by
  show (Instr.checkKey e (9999 + 1) kt k).run P w = .ok () w
  unfold Instr.checkKey
  simp only [Sem.run_bind, run_und (kkOf_spec hd), Result.andThen]
  cases kk <;> cases k <;> simp_all [kkHas, KK.desc]
theorem bytes_beq' (a b : ByteArray) : (a == b) = true ↔ a = b := by
  obtain ⟨x⟩ := a
  obtain ⟨y⟩ := b
  constructor
  · intro h
    have e : x = y := by simpa using (show (x == y) = true from h)
    rw [e]
  · intro h
    cases h
    show (x == x) = true
    simp
theorem keyEq_iff {kk : KK} {a b : Value} (ha : kkHas kk a = true) (hb : kkHas kk b = true) : keyEq a b = true ↔ a = b := by
  cases kk <;> cases a <;> cases b <;> simp_all [kkHas, keyEq, bytes_beq']
theorem keyEq_eq {a b : Value} (h : keyEq a b = true) : a = b := by
  cases a <;> cases b <;> simp_all [keyEq, bytes_beq']
theorem sameNow_keyEq {kk : KK} {a b : Value} (ha : kkHas kk a = true) (hb : kkHas kk b = true) : Instr.sameNow kk.desc a b = some (keyEq a b) := by
  cases kk <;> cases a <;> cases b <;> simp_all [kkHas, keyEq, Instr.sameNow, KK.desc]
theorem sameBits_key {kk : KK} {a : Value} (ha : kkHas kk a = true) (n : Nat) : Instr.sameBits n a a = true := by
  cases kk <;> cases a <;> simp_all [kkHas, Instr.sameBits, bytes_beq']

abbrev ERel (ι : Env) (kk : KK) (e : Value × Value) (ce : MapEntry) : Prop := ce.key = e.1 ∧ kkHas kk e.1 = true ∧ ARel ι e.2 ce.val

theorem find_spec {kk : KK} {k : Value} (hk : kkHas kk k = true) {es : List (Value × Value)} {ces : List MapEntry} (h : All2 (ERel ι kk) es ces) : ∀ (i : Nat),
    (mfind es k = none ∧ Instr.findNow kk.desc k ces i = some none ∧ (∀ e ∈ es, keyEq k e.1 = false)) ∨
    (∃ (j : Nat) (e : Value × Value) (ce : MapEntry), mfind es k = some e.2 ∧ Instr.findNow kk.desc k ces i = some (some (i + j, ce.val)) ∧ es[j]? = some e ∧ ces[j]? = some ce ∧ keyEq k e.1 = true ∧ (∀ j' e', j' < j → es[j']? = some e' → keyEq k e'.1 = false)) := by
  induction h with
  | nil => intro i; exact .inl ⟨rfl, rfl, by simp⟩
  | cons hab t ih =>
    rename_i e ce es ces
    intro i
    obtain ⟨h1, h2, h3⟩ := hab
    have hsn := sameNow_keyEq hk h2
    cases hq : keyEq k e.1 with
    | true =>
      refine .inr ⟨0, e, ce, by simp [mfind, hq], ?_, rfl, rfl, hq, by simp⟩
      simp [Instr.findNow, h1, hsn, hq]
    | false =>
      rcases ih (i + 1) with ⟨a, b, c⟩ | ⟨j, e', ce', a, b, c, d, f, g⟩
      · refine .inl ⟨by simp [mfind, hq, a], by simp [Instr.findNow, h1, hsn, hq, b], ?_⟩
        intro x hx
        rcases List.mem_cons.1 hx with rfl | hx
        · exact hq
        · exact c x hx
      · refine .inr ⟨j + 1, e', ce', by simp [mfind, hq, a], by simp [Instr.findNow, h1, hsn, hq, b]; omega, by simpa using c, by simpa using d, f, ?_⟩
        intro j' x hj hx
        cases j' with
        | zero => simp at hx; subst hx; exact hq
        | succ j' => exact g j' x (by omega) (by simpa using hx)

theorem VRel.map {r : Nat} {v' : Value} (h : VRel ι (.map (some r)) v') : ∃ l, ι r = some l ∧ v' = .map (some l.b) := by
  have hc := h.cell rfl
  cases hc with | s hc => cases hc with | map h' => exact ⟨_, h', rfl⟩
theorem VRel.mapNil {v' : Value} (h : VRel ι (.map none) v') : v' = .map none := vrel_eq rfl h

theorem sim_lookup {t kt e : TypeId} {kk : KK} {z x k cx ck : Value} {ok : Bool} {K : Value → H → Prop} (hu : P.underlying t = some (.map kt e)) (hz : zeroOf P e = some z) (hkk : kkOf P kt = some kk)
    (hr : HRel P W ι h w) (hx : VRel ι x cx) (hkr : VRel ι k ck) (hk : o_lookup kk z x k ok h fun v => K v h) : Sim P W ι (Instr.lookup t cx ck ok) w K := by
  obtain ⟨hkey, hk⟩ := hk
  obtain rfl := kkHas_vrel hkey hkr
  have hzr : ARel ι z z := arel_self (zeroOf_spec hz).1
  have pairR : ∀ v cv q, ARel ι v cv → VRel ι (bif ok then .tuple #[v, .bool q] else v) (bif ok then .tuple #[cv, .bool q] else cv) := by
    intro v cv q hv
    cases ok with
    | true => exact .tuple (.cons hv (.cons (.c (.s (.bool q))) .nil))
    | false => exact .a hv
  split at hk
  · obtain rfl := hx.mapNil
    refine Sim.quiet (cv := bif ok then .tuple #[z, .bool false] else z) hr ?_ (pairR z z false hzr) hk
    have hf : (Instr.findKey kt ck [] : Sem _).run P w = .ok none w := by simp [Instr.findKey, run_und (kkOf_spec hkk), Instr.findNow]
    cases ok <;> simp [Instr.lookup, run_und hu, run_checkKey' hkk hkey, hf, run_zero hz]
  · rename_i m
    obtain ⟨l, hl, rfl⟩ := hx.map
    split at hk
    · rename_i kk' es c hm
      obtain ⟨rfl, hk⟩ := hk
      obtain ⟨_, _, ces, h1, h2, _⟩ := hr.obj' hm hl
      have hg : (getObj l.b).run P w = .ok (.map ces c) w := by simp [getObj, Sem.run, h1]
      rcases find_spec hkey h2 0 with ⟨h3, h4, _⟩ | ⟨j, e', ce, h3, h4, h5, h6, _⟩
      · rw [h3] at hk
        refine Sim.quiet (cv := bif ok then .tuple #[z, .bool false] else z) hr ?_ (pairR z z false hzr) hk
        have hf : (Instr.findKey kt ck ces.toList : Sem _).run P w = .ok none w := by simp [Instr.findKey, run_und (kkOf_spec hkk), h4]
        cases ok <;> simp [Instr.lookup, run_und hu, hg, run_checkKey' hkk hkey, hf, run_zero hz]
      · rw [h3] at hk
        obtain ⟨ce', hce', _, _, hval⟩ := h2.get h5
        rw [h6] at hce'; cases hce'
        refine Sim.quiet (cv := bif ok then .tuple #[ce.val, .bool true] else ce.val) hr ?_ (pairR _ _ true hval) hk
        have hf : (Instr.findKey kt ck ces.toList : Sem _).run P w = .ok (some (j, ce.val)) w := by simp [Instr.findKey, run_und (kkOf_spec hkk), h4]
        cases ok <;> simp [Instr.lookup, run_und hu, hg, run_checkKey' hkk hkey, hf]
    · exact hk.elim
  · exact hk.elim

theorem mset_new {es : List (Value × Value)} {k v : Value} (h : ∀ e ∈ es, keyEq k e.1 = false) : mset es k v = es ++ [(k, v)] := by
  induction es with
  | nil => rfl
  | cons e es ih => simp [mset, h e (by simp), ih fun x hx => h x (by simp [hx])]
theorem mset_at {k v : Value} : ∀ {es : List (Value × Value)} {j : Nat} {e : Value × Value}, es[j]? = some e → keyEq k e.1 = true → (∀ j' e', j' < j → es[j']? = some e' → keyEq k e'.1 = false) → mset es k v = es.set j (k, v)
  | [], j, e, h, _, _ => by simp at h
  | x :: es, 0, e, h, hk, _ => by simp at h; subst h; simp [mset, hk]
  | x :: es, j + 1, e, h, hk, hn => by
    have h0 := hn 0 x (by omega) rfl
    simp [mset, h0]
    exact mset_at (by simpa using h) hk fun j' e' hj he => hn (j' + 1) e' (by omega) (by simpa using he)
theorem mdel_new {es : List (Value × Value)} {k : Value} (h : ∀ e ∈ es, keyEq k e.1 = false) : mdel es k = es := by
  induction es with
  | nil => rfl
  | cons e es ih => simp [mdel, h e (by simp), ih fun x hx => h x (by simp [hx])]
theorem mdel_at {k : Value} : ∀ {es : List (Value × Value)} {j : Nat} {e : Value × Value}, es[j]? = some e → keyEq k e.1 = true → (∀ j' e', j' < j → es[j']? = some e' → keyEq k e'.1 = false) → mdel es k = es.eraseIdx j
  | [], j, e, h, _, _ => by simp at h
  | x :: es, 0, e, h, hk, _ => by simp at h; subst h; simp [mdel, hk]
  | x :: es, j + 1, e, h, hk, hn => by
    have h0 := hn 0 x (by omega) rfl
    simp [mdel, h0]
    exact mdel_at (by simpa using h) hk fun j' e' hj he => hn (j' + 1) e' (by omega) (by simpa using he)
theorem All2.eraseIdx {α β : Type} {R : α → β → Prop} {l : List α} {m : List β} (h : All2 R l m) (i : Nat) : All2 R (l.eraseIdx i) (m.eraseIdx i) := by
  induction h generalizing i with
  | nil => exact .nil
  | cons h t ih => cases i with
    | zero => exact t
    | succ i => exact .cons h (ih i)

theorem map_set_blk (hr : HRel P W ι h w) {m : Nat} {l : Loc} {kk : KK} {es es' : List (Value × Value)} {c c' : Nat} {ces ces' : Array MapEntry} (hm : h m = some (.map kk es c)) (hl : ι m = some l) (h1 : w.heap[l.b]? = some (.map ces c))
    (hc : c ≤ c') (hsub : c' = c → ∀ ce' ∈ ces'.toList, ∃ ce ∈ ces.toList, ce.born = ce'.born ∧ ce.key = ce'.key)
    (h2 : All2 (ERel ι kk) es' ces'.toList) (hb : ∀ ce ∈ ces'.toList, ce.born < c') (hn : (ces'.toList.map (·.born)).Nodup) (hp : es'.Pairwise fun a b => keyEq a.1 b.1 = false) :
    HRel P W ι (upd h m (.map kk es' c')) (setBlk w l.b (.map ces' c')) := by
  have hlt : l.b < w.heap.size := (Array.getElem?_eq_some_iff.1 h1).1
  obtain ⟨hB, ho, _⟩ := hr.obj' hm hl
  refine hr.set hm hl rfl (setBlk_size _ _ _) (fun c hc => setBlk_ne _ _ hc) rfl rfl rfl hB ?_ ⟨hB, ho, ces', setBlk_same _ _ hlt, h2, hb, hn, hp⟩
  intro es1 cl1 he
  rw [setBlk_same _ _ hlt] at he
  cases he
  exact ⟨ces, c, h1, hc, hsub⟩

theorem sim_mapUpdate {t kt e : TypeId} {kk : KK} {m k v cm ck cv : Value} {K : H → Prop} (hu : P.underlying t = some (.map kt e)) (hkk : kkOf P kt = some kk)
    (hr : HRel P W ι h w) (hm : VRel ι m cm) (hkr : VRel ι k ck) (hv : VRel ι v cv) (hk : o_mapUpdate kk m k v h K) : SimU P W ι (Instr.mapUpdate t cm ck cv) w K := by
  obtain ⟨hkey, hbox, hk⟩ := hk
  obtain rfl := kkHas_vrel hkey hkr
  split at hk
  · rename_i b
    obtain ⟨l, hl, rfl⟩ := hm.map
    split at hk
    · rename_i kk' es c hb
      obtain ⟨rfl, hk⟩ := hk
      obtain ⟨_, _, ces, h1, h2, h3, h4, h5⟩ := hr.obj' hb hl
      have hg : (getObj l.b).run P w = .ok (.map ces c) w := by simp [getObj, Sem.run, h1]
      have hs : ∀ O, (setObj l.b O).run P w = .ok () (setBlk w l.b O) := fun O => by simp [setObj, Sem.run, h1, setBlk]
      rcases find_spec hkey h2 0 with ⟨h6, h7, h8⟩ | ⟨j, e', ce, h6, h7, h8, h9, h10, h11⟩
      · have hf : (Instr.findKey kt ck ces.toList : Sem _).run P w = .ok none w := by simp [Instr.findKey, run_und (kkOf_spec hkk), h7]
        refine ⟨_, ι, _, by simp [Instr.mapUpdate, run_und hu, hg, run_checkKey' hkk hkey, hf, hs]; rfl, Env.le_refl _, ?_, hk⟩
        rw [show mhas es ck = false by simp [mhas, h6], if_neg (by simp), mset_new h8]
        refine map_set_blk hr hb hl h1 (by omega) (fun he => by omega) ?_ ?_ ?_ ?_
        · simp only [Array.toList_push]
          exact h2.append (.cons ⟨rfl, hkey, hv.toA hbox⟩ .nil)
        · intro x hx
          simp only [Array.toList_push, List.mem_append, List.mem_singleton] at hx
          rcases hx with hx | rfl
          · have := h3 x hx; omega
          · simp
        · simp only [Array.toList_push, List.map_append, List.map_cons, List.map_nil]
          refine List.nodup_append.2 ⟨h4, by simp, ?_⟩
          intro a ha b' hb'
          obtain ⟨x, hx, rfl⟩ := List.mem_map.1 ha
          simp at hb'
          have := h3 x hx; omega
        · refine List.pairwise_append.2 ⟨h5, by simp, ?_⟩
          intro a ha b' hb'
          simp at hb'
          subst hb'
          have h12 := h8 a ha
          cases hq : keyEq a.1 ck with
          | false => rfl
          | true =>
            obtain ⟨i, hi⟩ := List.mem_iff_getElem?.1 ha
            obtain ⟨ce, _, _, hkk', _⟩ := h2.get hi
            rw [(keyEq_iff hkk' hkey).1 hq] at h12
            have := (keyEq_iff hkey hkey).2 rfl
            rw [this] at h12; cases h12
      · have hf : (Instr.findKey kt ck ces.toList : Sem _).run P w = .ok (some (j, ce.val)) w := by simp [Instr.findKey, run_und (kkOf_spec hkk), h7]
        obtain ⟨ce', hce', hkeye, hkk', hval⟩ := h2.get h8
        rw [h9] at hce'; cases hce'
        have hek : e'.1 = ck := ((keyEq_iff hkey hkk').1 h10).symm
        have hj : ces[j]? = some ce := by simpa using h9
        have hck : ce.key = ck := hkeye.trans hek
        have hkt : (Instr.keyThatStays ck ck).run P w = .ok ck w := by simp [Instr.keyThatStays, sameBits_key hkey]
        refine ⟨_, ι, _, by simp [Instr.mapUpdate, run_und hu, hg, run_checkKey' hkk hkey, hf, hj, hck, hkt, hs]; rfl, Env.le_refl _, ?_, hk⟩
        rw [show mhas es ck = true by simp [mhas, h6], if_pos rfl, mset_at h8 h10 h11]
        have hml : ∀ (f : MapEntry → MapEntry), (ces.modify j f).toList = ces.toList.modify j f := fun f => by simp
        have hmod : (ces.modify j fun e => { e with key := ck, val := cv }).toList = ces.toList.set j { ce with key := ck, val := cv } := by
          apply List.ext_getElem?
          intro i
          rw [hml, List.getElem?_modify, List.getElem?_set]
          by_cases hij : j = i
          · subst hij
            have : j < ces.toList.length := (List.getElem?_eq_some_iff.1 h9).1
            have hjs : j < ces.size := by simpa using this
            have hje : ces[j] = ce := (Array.getElem?_eq_some_iff.1 hj).2
            simp [hjs, hje]
          · simp [hij]
        refine map_set_blk hr hb hl h1 (Nat.le_refl _) (fun _ => ?_) ?_ ?_ ?_ ?_
        · intro x hx
          rw [hmod] at hx
          rcases List.mem_or_eq_of_mem_set hx with hx | rfl
          · exact ⟨x, hx, rfl, rfl⟩
          · exact ⟨ce, List.mem_iff_getElem?.2 ⟨j, h9⟩, rfl, hck⟩
        · rw [hmod]; exact h2.set j ⟨rfl, hkey, hv.toA hbox⟩
        · intro x hx
          rw [hmod] at hx
          rcases List.mem_or_eq_of_mem_set hx with hx | rfl
          · exact h3 x hx
          · exact h3 ce (List.mem_iff_getElem?.2 ⟨j, h9⟩)
        · rw [hmod, List.map_set]
          have : (ces.toList.map (·.born)).set j ce.born = ces.toList.map (·.born) := by
            apply List.ext_getElem?
            intro i
            rw [List.getElem?_set]
            by_cases hij : j = i
            · subst hij
              have : j < ces.toList.length := (List.getElem?_eq_some_iff.1 h9).1
              have hjs : j < ces.size := by simpa using this
              have hje : ces[j] = ce := (Array.getElem?_eq_some_iff.1 hj).2
              simp [hjs, hje]
            · simp [hij]
          simp only [this]; exact h4
        · have e1 : (es.set j (ck, v)).map (·.1) = es.map (·.1) := by
            apply List.ext_getElem?
            intro i
            rw [List.map_set, List.getElem?_set]
            by_cases hij : j = i
            · subst hij
              have : j < es.length := (List.getElem?_eq_some_iff.1 h8).1
              have hje : es[j] = e' := (List.getElem?_eq_some_iff.1 h8).2
              simp [this, hje, hek]
            · simp [hij]
          have e2 : ∀ l : List (Value × Value), l.Pairwise (fun a b => keyEq a.1 b.1 = false) ↔ (l.map (·.1)).Pairwise (fun a b => keyEq a b = false) := fun l => by simp [List.pairwise_map]
          rw [e2, e1, ← e2]; exact h5
    · exact hk.elim
  · exact hk.elim

theorem sim_delete {t kt e : TypeId} {kk : KK} {m k cm ck : Value} {ts : Array TypeId} {ty : TypeId} {K : Value → H → Prop} (hu : P.underlying t = some (.map kt e)) (hkk : kkOf P kt = some kk) (ht : ts[0]? = some t)
    (hr : HRel P W ι h w) (hm : VRel ι m cm) (hkr : VRel ι k ck) (hk : o_delete kk m k h fun h => K undef h) : Sim P W ι (Builtin.delete_ ts ty #[cm, ck]) w K := by
  obtain ⟨hkey, hk⟩ := hk
  obtain rfl := kkHas_vrel hkey hkr
  split at hk
  · obtain rfl := hm.mapNil
    exact Sim.quiet (cv := undef) hr (by simp [Builtin.delete_, ht, run_und hu, run_checkKey' hkk hkey]; rfl) VRel.undef hk
  · rename_i b
    obtain ⟨l, hl, rfl⟩ := hm.map
    split at hk
    · rename_i kk' es c hb
      obtain ⟨rfl, hk⟩ := hk
      obtain ⟨_, _, ces, h1, h2, h3, h4, h5⟩ := hr.obj' hb hl
      have hg : (getObj l.b).run P w = .ok (.map ces c) w := by simp [getObj, Sem.run, h1]
      have hs : ∀ O, (setObj l.b O).run P w = .ok () (setBlk w l.b O) := fun O => by simp [setObj, Sem.run, h1, setBlk]
      rcases find_spec hkey h2 0 with ⟨h6, h7, h8⟩ | ⟨j, e', ce, h6, h7, h8, h9, h10, h11⟩
      · have hf : (Instr.findKey kt ck ces.toList : Sem _).run P w = .ok none w := by simp [Instr.findKey, run_und (kkOf_spec hkk), h7]
        refine ⟨undef, setBlk w l.b (.map ces c), ι, undef, _, by simp [Builtin.delete_, ht, run_und hu, hg, run_checkKey' hkk hkey, hf, hs]; rfl, Env.le_refl _, ?_, VRel.undef, hk⟩
        rw [mdel_new h8]
        exact map_set_blk hr hb hl h1 (Nat.le_refl _) (fun _ x hx => ⟨x, hx, rfl, rfl⟩) h2 h3 h4 h5
      · have hf : (Instr.findKey kt ck ces.toList : Sem _).run P w = .ok (some (j, ce.val)) w := by simp [Instr.findKey, run_und (kkOf_spec hkk), h7]
        have hj : j < ces.size := by have := (List.getElem?_eq_some_iff.1 h9).1; simpa using this
        have he : (ces.eraseIdxIfInBounds j).toList = ces.toList.eraseIdx j := by simp [Array.eraseIdxIfInBounds, hj]
        have hsub : (ces.toList.eraseIdx j).Sublist ces.toList := List.eraseIdx_sublist _ _
        refine ⟨undef, setBlk w l.b (.map (ces.eraseIdxIfInBounds j) c), ι, undef, _, by simp [Builtin.delete_, ht, run_und hu, hg, run_checkKey' hkk hkey, hf, hs]; rfl, Env.le_refl _, ?_, VRel.undef, hk⟩
        rw [mdel_at h8 h10 h11]
        refine map_set_blk hr hb hl h1 (Nat.le_refl _) (fun _ x hx => ⟨x, hsub.subset (he ▸ hx), rfl, rfl⟩) ?_ ?_ ?_ ?_
        · rw [he]; exact h2.eraseIdx j
        · intro x hx; rw [he] at hx; exact h3 x (hsub.subset hx)
        · rw [he]; exact (hsub.map _).nodup h4
        · exact h5.sublist (List.eraseIdx_sublist _ _)
    · exact hk.elim
  · exact hk.elim

theorem sim_makeMap {t kt e : TypeId} {kk : KK} {r : Option Value} {K : Value → H → Prop} (hu : P.underlying t = some (.map kt e)) (hrr : r = none ∨ ∃ k n, r = some (.int k n))
    (hr : HRel P W ι h w) (hk : o_newObj (.map kk [] 0) h fun b h => K (.map (some b)) h) : Sim P W ι (Instr.makeMap t r) w K := by
  obtain ⟨b, ι', h1, h2, h3, h4⟩ := sim_newObj (O := .map #[] 0) (o := .map kk [] 0) hr (fun b => .inl ⟨hr.below.size, rfl, #[], alloc_get_new w _, .nil, by simp, by simp, .nil⟩) hk
  refine ⟨_, _, ι', _, _, ?_, h1, h3, .a (.c (.s (.map h2))), h4⟩
  rcases hrr with rfl | ⟨k, n, rfl⟩
  · simp [Instr.makeMap]
  · simp [Instr.makeMap, run_und hu, asInt, asIntOf]

theorem keys_any {kk : KK} {es : List (Value × Value)} {e : Value × Value} (he : e ∈ es) (hk : kkHas kk e.1 = true) : (es.map (·.1)).any (keyEq e.1) = true := by
  rw [List.any_eq_true]
  exact ⟨e.1, List.mem_map.2 ⟨e, he, rfl⟩, (keyEq_iff hk hk).2 rfl⟩

theorem sim_range {t kt e : TypeId} {x cx : Value} {K : Value → H → Prop} (hu : P.underlying t = some (.map kt e)) (hr : HRel P W ι h w) (hx : VRel ι x cx) (hk : o_range x h K) : Sim P W ι (Instr.range t cx) w K := by
  unfold o_range at hk
  split at hk
  · obtain rfl := hx.mapNil
    obtain ⟨b, ι', h1, h2, h3, h4⟩ := sim_newObj (O := .mapIter none 0 #[] 0) (o := .iter none [] 0 none) hr (fun b => .inl ⟨hr.below.size, rfl, none, 0, #[], 0, alloc_get_new w _, rfl⟩) hk
    exact ⟨_, _, ι', _, _, by simp [Instr.range, run_und hu], h1, h3, vrel_ptr_new h2, h4⟩
  · rename_i m
    obtain ⟨l, hl, rfl⟩ := hx.map
    split at hk
    · rename_i kk es c hm
      obtain ⟨_, _, ces, g1, g2, g3, g4, g5⟩ := hr.obj' hm hl
      have hg : (getObj l.b).run P w = .ok (.map ces c) w := by simp [getObj, Sem.run, g1]
      have hlt : l.b < w.heap.size := (Array.getElem?_eq_some_iff.1 g1).1
      obtain ⟨b, ι', h1, h2, h3, h4⟩ := sim_newObj (O := .mapIter (some l.b) c #[] c) (o := .iter (some m) (es.map (·.1)) c none) hr (fun b => by
        by_cases hb : ι b = none
        · refine .inl ⟨hr.below.size, rfl, some l.b, c, #[], c, alloc_get_new w _, l, Env.le_set _ hb _ _ hl, rfl, rfl, rfl, ?_, fun k hk => by cases hk⟩
          intro ces' clock' hc'
          rw [alloc_get_lt _ _ hlt, g1] at hc'
          cases hc'
          refine ⟨Nat.le_refl _, fun _ ce hce => ?_⟩
          obtain ⟨i, hi⟩ := List.mem_iff_getElem?.1 hce
          obtain ⟨e', he', hk', hkk', _⟩ := g2.get' hi
          have := keys_any (List.mem_iff_getElem?.2 ⟨i, he'⟩) hkk'
          rw [hk', this]; simp
        · exact .inr hb) hk
      exact ⟨_, _, ι', _, _, by simp [Instr.range, run_und hu, hg], h1, h3, vrel_ptr_new h2, h4⟩
    · exact hk.elim
  · exact hk.elim

theorem sim_next {it cit : Value} {ty : TypeId} {K : Value → H → Prop} (hr : HRel P W ι h w) (hi : VRel ι it cit) (hk : o_next it h K) : Sim P W ι (Instr.next cit false ty) w K := by
  unfold o_next at hk
  split at hk
  · rename_i b
    obtain ⟨l, hl, rfl⟩ := hi.ptr
    split at hk
    · rename_i left since cur hb
      obtain ⟨_, ho, cm, since', seen, stepped, h1, rfl⟩ := hr.obj' hb hl
      have hg : (getObj l.b).run P w = .ok (.mapIter none since' seen stepped) w := by simp [getObj, Sem.run, h1]
      exact Sim.quiet (cv := .tuple #[.bool false]) hr (by simp [Instr.next, ho, hg]) (vrel_self rfl) hk
    · rename_i m left since cur hb
      obtain ⟨hB, ho, cm, since', seen, stepped, h1, lm, hlm, rfl, rfl, rfl, hmm, _⟩ := hr.obj' hb hl
      have hg : (getObj l.b).run P w = .ok (.mapIter (some lm.b) stepped seen stepped) w := by simp [getObj, Sem.run, h1]
      split at hk
      · rename_i kk es c hm
        obtain ⟨rfl, hk1, hk2⟩ := hk
        obtain ⟨_, _, ces, g1, g2, g3, g4, g5⟩ := hr.obj' hm hlm
        have hgm : (getObj lm.b).run P w = .ok (.map ces c) w := by simp [getObj, Sem.run, g1]
        have hseen := (hmm ces c g1).2 rfl
        have hall : (!seen.isEmpty && !ces.isEmpty && ces.all (fun e => decide (e.born ≥ c))) = false := by
          cases hce : ces.toList with
          | nil =>
            have : ces = #[] := Array.ext' hce
            subst this; simp
          | cons x xs =>
            have hx := g3 x (by rw [hce]; simp)
            have : ces.all (fun e => decide (e.born ≥ c)) = false := by
              rw [← Array.all_toList, hce]
              simp; intro h; omega
            simp [this]
        have hnew : ∀ l' : Array MapEntry, (∀ x ∈ l'.toList, x ∈ ces.toList) → l'.filter (fun e => decide (e.born < c)) = l' ∧ l'.filter (fun e => decide (e.born ≥ c)) = #[] := by
          intro l' hl'
          constructor
          · rw [Array.filter_eq_self]
            intro a ha
            have := g3 a (hl' a (by simpa using ha)); simpa using this
          · rw [Array.filter_eq_empty_iff]
            intro a ha
            have := g3 a (hl' a (by simpa using ha)); simpa using this
        generalize hleft : ces.filter (fun e => !seen.contains e.born) = L
        have hLmem : ∀ x, x ∈ L.toList ↔ x ∈ ces.toList ∧ x.born ∉ seen.toList := by
          intro x; rw [← hleft]; simp
        obtain ⟨e1, e2⟩ := hnew L (fun x hx => ((hLmem x).1 hx).1)
        cases hL : L.toList with
        | nil =>
          have hLe : L = #[] := Array.ext' hL
          refine Sim.quiet (cv := .tuple #[.bool false]) hr ?_ (vrel_self rfl) (hk2 fun e he => ?_)
          · simp only [Instr.next, ho, Sem.run_bind, Nat.add_zero, hg, Result.andThen_ok, hgm]
            simp only [hall, Bool.false_eq_true, if_false, hleft, hLe]
            simp [Question.forced]
          · obtain ⟨i, hi'⟩ := List.mem_iff_getElem?.1 he
            obtain ⟨ce, hce, hk', hkk', _⟩ := g2.get hi'
            have hmem := List.mem_iff_getElem?.2 ⟨i, hce⟩
            rw [← hk']
            refine (hseen ce hmem).1 ?_
            by_cases hs : ce.born ∈ seen.toList
            · exact hs
            · have := (hLmem ce).2 ⟨hmem, hs⟩
              rw [hL] at this; cases this
        | cons x xs =>
          have hne : L.isEmpty = false := by
            cases hq : L.isEmpty with
            | false => rfl
            | true => rw [Array.isEmpty_iff] at hq; rw [hq] at hL; cases hL
          have hpos : 0 < L.size := by rw [← Array.length_toList, hL]; simp
          have hcand : ((if L.isEmpty = true then #[none] else #[]) ++ (L ++ #[]).map some : Array (Option MapEntry)) = L.map some := by simp [hne]
          have hchoose : ∃ j w1, (choose (.mapNext (L.map some).size)).run P w = .ok j w1 ∧ j < L.size ∧ w1.heap = w.heap ∧ w1.os = w.os ∧ w1.tape = w.tape ∧ w1.output = w.output := by
            rw [run_choose]
            split
            · exact ⟨0, w, rfl, hpos, rfl, rfl, rfl, rfl⟩
            · exact ⟨_, _, rfl, by simp [Question.cut]; exact Nat.mod_lt _ hpos, rfl, rfl, rfl, rfl⟩
          obtain ⟨j, w1, hch, hj, hw1, hw2, hw3, hw4⟩ := hchoose
          have hr1 : HRel P W ι h w1 := hr.world hw1 hw2 hw3 hw4
          generalize hce : L[j] = ce
          have hmemL : ce ∈ L.toList := by rw [← hce]; simp
          obtain ⟨hmem, hns⟩ := (hLmem ce).1 hmemL
          obtain ⟨i, hi'⟩ := List.mem_iff_getElem?.1 hmem
          obtain ⟨e, he, hk', hkk', hval⟩ := g2.get' hi'
          have hany : left.any (keyEq e.1) = true := by
            cases hq : left.any (keyEq e.1) with
            | true => rfl
            | false => rw [← hk'] at hq; exact absurd ((hseen ce hmem).2 hq) hns
          have hlt : l.b < w1.heap.size := by rw [hw1]; exact (Array.getElem?_eq_some_iff.1 h1).1
          have hs : ∀ O, (setObj l.b O).run P w1 = .ok () (setBlk w1 l.b O) := fun O => by simp [setObj, Sem.run, hw1, h1, setBlk]
          have hne' : lm.b ≠ l.b := by intro he; rw [he] at g1; rw [g1] at h1; cases h1
          refine ⟨.tuple #[.bool true, ce.key, ce.val], setBlk w1 l.b (.mapIter (some lm.b) c (seen.push ce.born) c), ι, _, _, ?_, Env.le_refl _, ?_, ?_, hk1 e (List.mem_iff_getElem?.2 ⟨i, he⟩) hany⟩
          · simp only [Instr.next, ho, Sem.run_bind, Nat.add_zero, hg, Result.andThen_ok, hgm]
            simp only [hall, Bool.false_eq_true, if_false, hleft, e1, e2, hcand]
            rw [Sem.run_bind, hch]
            have : (L.map some)[j]? = some (some ce) := by simp [hj, hce]
            simp only [Result.andThen_ok, this]
            simp [hs]
          · refine hr1.set hb hl rfl (setBlk_size _ _ _) (fun c hc => setBlk_ne _ _ hc) rfl rfl rfl hB (fun es1 cl1 he1 => by rw [setBlk_same _ _ hlt] at he1; cases he1) ?_
            refine ⟨hB, ho, some lm.b, c, seen.push ce.born, c, setBlk_same _ _ hlt, lm, hlm, rfl, rfl, rfl, ?_, ?_⟩
            rotate_left
            · intro k hkq
              cases hkq
              refine ⟨ce.born, by simp, fun ces' clock' hc' _ x hx => ?_⟩
              rw [setBlk_ne _ _ hne', hw1, g1] at hc'
              cases hc'
              obtain ⟨i2, hi2⟩ := List.mem_iff_getElem?.1 hx
              obtain ⟨e2', he2, hk2', hkk2, _⟩ := g2.get' hi2
              constructor
              · intro hxe
                have hxce : i2 = i := by
                  have hnd := List.pairwise_iff_getElem.1 g4
                  obtain ⟨a1, b1⟩ := List.getElem?_eq_some_iff.1 hi'
                  obtain ⟨a2, b2⟩ := List.getElem?_eq_some_iff.1 hi2
                  rcases Nat.lt_trichotomy i2 i with hlt' | heq | hgt
                  · exfalso
                    have := hnd i2 i (by simpa using a2) (by simpa using a1) hlt'
                    simp only [List.getElem_map, b1, b2] at this
                    exact this hxe
                  · exact heq
                  · exfalso
                    have := hnd i i2 (by simpa using a1) (by simpa using a2) hgt
                    simp only [List.getElem_map, b1, b2] at this
                    exact this hxe.symm
                subst hxce
                rw [hi'] at hi2; cases hi2
                exact hk'
              · intro hxk
                by_cases hii : i2 = i
                · subst hii; rw [hi'] at hi2; cases hi2; rfl
                · exfalso
                  have heq : e2'.1 = e.1 := by rw [← hk2']; exact hxk
                  have hkeq : keyEq e2'.1 e.1 = true ∧ keyEq e.1 e2'.1 = true := ⟨(keyEq_iff hkk2 hkk').2 heq, (keyEq_iff hkk' hkk2).2 heq.symm⟩
                  rw [List.pairwise_iff_getElem] at g5
                  obtain ⟨a1, b1⟩ := List.getElem?_eq_some_iff.1 he2
                  obtain ⟨a2, b2⟩ := List.getElem?_eq_some_iff.1 he
                  rcases Nat.lt_or_gt_of_ne hii with hlt' | hgt
                  · have := g5 i2 i a1 a2 hlt'
                    rw [b1, b2, hkeq.1] at this; cases this
                  · have := g5 i i2 a2 a1 hgt
                    rw [b1, b2, hkeq.2] at this; cases this
            intro ces' clock' hc'
            rw [setBlk_ne _ _ hne', hw1, g1] at hc'
            cases hc'
            refine ⟨Nat.le_refl _, fun _ x hx => ?_⟩
            obtain ⟨i2, hi2⟩ := List.mem_iff_getElem?.1 hx
            obtain ⟨e2', he2, hk2', hkk2, _⟩ := g2.get' hi2
            have hfil : (left.filter fun k => !keyEq e.1 k).any (keyEq x.key) = (left.any fun k => keyEq x.key k && !keyEq e.1 k) := by
              rw [List.any_filter]; congr 1; funext k; rw [Bool.and_comm]
            rw [hfil]
            simp only [Array.toList_push, List.mem_append, List.mem_singleton]
            by_cases hxe : x.born = ce.born
            · have hxce : i2 = i := by
                have hnd := List.pairwise_iff_getElem.1 g4
                obtain ⟨a1, b1⟩ := List.getElem?_eq_some_iff.1 hi'
                obtain ⟨a2, b2⟩ := List.getElem?_eq_some_iff.1 hi2
                rcases Nat.lt_trichotomy i2 i with hlt' | heq | hgt
                · exfalso
                  have := hnd i2 i (by simpa using a2) (by simpa using a1) hlt'
                  simp only [List.getElem_map, b1, b2] at this
                  exact this hxe
                · exact heq
                · exfalso
                  have := hnd i i2 (by simpa using a1) (by simpa using a2) hgt
                  simp only [List.getElem_map, b1, b2] at this
                  exact this hxe.symm
              subst hxce
              rw [he] at he2; cases he2
              rw [hi'] at hi2; cases hi2
              simp only [hk', or_true, true_iff]
              rw [List.any_eq_false]
              intro k _
              cases keyEq e.1 k <;> simp
            · have hne2 : e2'.1 ≠ e.1 := by
                intro heq
                have hii : i2 ≠ i := by
                  rintro rfl
                  rw [hi'] at hi2; cases hi2; exact hxe rfl
                have hkeq : keyEq e2'.1 e.1 = true ∧ keyEq e.1 e2'.1 = true := ⟨(keyEq_iff hkk2 hkk').2 heq, (keyEq_iff hkk' hkk2).2 heq.symm⟩
                rw [List.pairwise_iff_getElem] at g5
                rcases Nat.lt_or_gt_of_ne hii with hlt' | hgt
                · obtain ⟨a1, b1⟩ := List.getElem?_eq_some_iff.1 he2
                  obtain ⟨a2, b2⟩ := List.getElem?_eq_some_iff.1 he
                  have := g5 i2 i a1 a2 hlt'
                  rw [b1, b2, hkeq.1] at this; cases this
                · obtain ⟨a1, b1⟩ := List.getElem?_eq_some_iff.1 he2
                  obtain ⟨a2, b2⟩ := List.getElem?_eq_some_iff.1 he
                  have := g5 i i2 a2 a1 hgt
                  rw [b1, b2, hkeq.2] at this; cases this
              have hboth : ∀ k, keyEq x.key k = true → keyEq e.1 k = false := by
                intro k hk1'
                cases hq : keyEq e.1 k with
                | false => rfl
                | true =>
                  exfalso
                  exact hne2 (by rw [← hk2', keyEq_eq hk1', keyEq_eq hq])
              have : (left.any fun k => keyEq x.key k && !keyEq e.1 k) = left.any (keyEq x.key) := by
                congr 1; funext k
                cases hq : keyEq x.key k with
                | false => rfl
                | true => simp [hboth k hq]
              rw [this, ← hseen x hx]
              simp [hxe]
          · rw [hk']
            exact .tuple (.cons (.c (.s (.bool true))) (.cons (.c (crel_self (kkHas_self hkk'))) (.cons hval .nil)))
      · exact hk.elim
    · exact hk.elim
  · exact hk.elim

theorem sim_entry {it cit : Value} {K : Value → H → Prop} (hr : HRel P W ι h w) (hi : VRel ι it cit) (hk : o_entry it h fun v => K v h) : Sim P W ι (Instr.entry cit) w K := by
  unfold o_entry at hk
  split at hk
  · rename_i b
    obtain ⟨l, hl, rfl⟩ := hi.ptr
    split at hk
    · rename_i m left since k hb
      obtain ⟨hB, ho, cm, since', seen, stepped, h1, lm, hlm, rfl, rfl, rfl, hmm, hcur⟩ := hr.obj' hb hl
      obtain ⟨st, hst, hent⟩ := hcur k rfl
      have hg : (getObj l.b).run P w = .ok (.mapIter (some lm.b) stepped seen stepped) w := by simp [getObj, Sem.run, h1]
      split at hk
      · rename_i kk es c hm
        obtain ⟨rfl, hk⟩ := hk
        obtain ⟨_, _, ces, g1, g2, g3, g4, g5⟩ := hr.obj' hm hlm
        have hgm : (getObj lm.b).run P w = .ok (.map ces c) w := by simp [getObj, Sem.run, g1]
        have hent := hent ces c g1 rfl
        split at hk
        · rename_i v hv
          have hfind : ∀ (es : List (Value × Value)) v, mfind es k = some v → ∃ (j : Nat) (e : Value × Value), es[j]? = some e ∧ keyEq k e.1 = true ∧ e.2 = v := by
            intro es
            induction es with
            | nil => intro v h; cases h
            | cons e es ih =>
              intro v h
              simp only [mfind] at h
              cases hq : keyEq k e.1
              · rw [hq, cond_false] at h
                obtain ⟨j, e', h1, h2, h3⟩ := ih v h
                exact ⟨j + 1, e', by simpa using h1, h2, h3⟩
              · rw [hq, cond_true] at h; cases h
                exact ⟨0, e, rfl, hq, rfl⟩
          obtain ⟨j, e, hj, hkq, rfl⟩ := hfind es v hv
          obtain ⟨ce, hce, hck, hkk, hval⟩ := g2.get hj
          have hke : k = e.1 := keyEq_eq hkq
          have hcem : ce ∈ ces.toList := List.mem_of_getElem? hce
          have hborn : ce.born = st := (hent ce hcem).2 (by rw [hck, hke])
          have hfd : ces.find? (fun x => x.born == st) = some ce := by
            have hfl : ces.toList.find? (fun x => x.born == st) = some ce := by
              have : ∃ x, ces.toList.find? (fun x => x.born == st) = some x := by
                cases hq : ces.toList.find? (fun x => x.born == st) with
                | some x => exact ⟨x, rfl⟩
                | none =>
                  have := List.find?_eq_none.1 hq ce hcem
                  simp [hborn] at this
              obtain ⟨x, hx⟩ := this
              rw [hx]
              have hxb : x.born = st := by simpa using List.find?_some hx
              have hxm : x ∈ ces.toList := List.mem_of_find?_eq_some hx
              obtain ⟨i1, q1⟩ := List.mem_iff_getElem?.1 hxm
              have hnd := List.pairwise_iff_getElem.1 g4
              obtain ⟨a1, b1⟩ := List.getElem?_eq_some_iff.1 q1
              obtain ⟨a2, b2⟩ := List.getElem?_eq_some_iff.1 hce
              rcases Nat.lt_trichotomy i1 j with hlt' | heq | hgt
              · exfalso
                have := hnd i1 j (by simpa using a1) (by simpa using a2) hlt'
                simp only [List.getElem_map, b1, b2] at this
                exact this (by rw [hxb, hborn])
              · subst heq; rw [q1] at hce; exact hce
              · exfalso
                have := hnd j i1 (by simpa using a2) (by simpa using a1) hgt
                simp only [List.getElem_map, b1, b2] at this
                exact this (by rw [hxb, hborn])
            simpa using hfl
          refine Sim.quiet (cv := .tuple #[ce.key, ce.val]) hr ?_ (.tuple (.cons ?_ (.cons hval .nil))) hk
          · simp only [Instr.entry, ho, Sem.run_bind, Nat.add_zero, hg, Result.andThen_ok, hst, hgm]
            simp [hfd]
          · rw [hck, ← hke]
            have : kkHas kk k = true := by rw [hke]; exact hkk
            exact arel_self (by unfold kkHas at this; split at this <;> first | rfl | cases this)
        · exact hk.elim
      · exact hk.elim
    · exact hk.elim
  · exact hk.elim
end
end Go.Proofs.YtjdhldfeflmneaaGreat.AM
