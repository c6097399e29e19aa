import Derived.Test.YtbmfblmebhobiaaGreatM1
/-
  The operations in the abstract memory tell what the model's operations do: maps.
-/
set_option linter.unusedSimpArgs false
set_option linter.unusedVariables false
namespace Go.Proofs.YtbmfblmebhobiaaGreat.AM
open Go.RowKit
section
variable {P : Program} {W : World} {ι : Env} {h : H} {w : World}

def KK.desc : KK → TypeDesc
  | .int j => .int j
  | .str => .string
  | .bool => .bool
theorem kkOf_spec {kt : TypeId} {kk : KK} (hk : kkOf P kt = some kk) : P.underlying kt = some kk.desc := by
  unfold kkOf at hk
  split at hk <;> simp at hk <;> subst hk <;> assumption
theorem kkHas_self {kk : KK} {k : Value} (hk : kkHas kk k = true) : selfC k = true := by
  cases kk <;> cases k <;> simp_all [kkHas, selfC]
theorem kkHas_vrel {kk : KK} {k ck : Value} (hk : kkHas kk k = true) (h : VRel ι k ck) : ck = k :=
  crel_eq (kkHas_self hk) (h.cell (by cases kk <;> cases k <;> simp_all [kkHas, cellV]))
theorem run_checkKey' {kt : TypeId} {kk : KK} {k : Value} (hd : kkOf P kt = some kk) (hk : kkHas kk k = true) (e : Bool) (w : World) : (Instr.checkKey e 10000 kt k).run P w = .ok () w := by
  show (Instr.checkKey e (9999 + 1) kt k).run P w = .ok () w
  unfold Instr.checkKey
  simp only [Sem.run_bind, run_und (kkOf_spec hd), Result.andThen]
  cases kk <;> cases k <;> simp_all [kkHas, KK.desc]
theorem bytes_beq' (a b : ByteArray) : (a == b) = true ↔ a = b := by
  obtain ⟨x⟩ := a
  obtain ⟨y⟩ := b
  constructor
  · intro h
    have e : x = y := by simpa using (show (x == y) = true from h)
    rw [e]
  · intro h
    cases h
    show (x == x) = true
    simp
theorem keyEq_iff {kk : KK} {a b : Value} (ha : kkHas kk a = true) (hb : kkHas kk b = true) : keyEq a b = true ↔ a = b := by
  cases kk <;> cases a <;> cases b <;> simp_all [kkHas, keyEq, bytes_beq']
theorem keyEq_eq {a b : Value} (h : keyEq a b = true) : a = b := by
  cases a <;> cases b <;> simp_all [keyEq, bytes_beq']
theorem sameNow_keyEq {kk : KK} {a b : Value} (ha : kkHas kk a = true) (hb : kkHas kk b = true) : Instr.sameNow kk.desc a b = some (keyEq a b) := by
  cases kk <;> cases a <;> cases b <;> simp_all [kkHas, keyEq, Instr.sameNow, KK.desc]
theorem sameBits_key {kk : KK} {a : Value} (ha : kkHas kk a = true) (n : Nat) : Instr.sameBits n a a = true := by
  cases kk <;> cases a <;> simp_all [kkHas, Instr.sameBits, bytes_beq']

abbrev ERel (ι : Env) (kk : KK) (e : Value × Value) (ce : MapEntry) : Prop := ce.key = e.1 ∧ kkHas kk e.1 = true ∧ ARel ι e.2 ce.val

theorem find_spec {kk : KK} {k : Value} (hk : kkHas kk k = true) {es : List (Value × Value)} {ces : List MapEntry} (h : All2 (ERel ι kk) es ces) : ∀ (i : Nat),
    (mfind es k = none ∧ Instr.findNow kk.desc k ces i = some none ∧ (∀ e ∈ es, keyEq k e.1 = false)) ∨
    (∃ (j : Nat) (e : Value × Value) (ce : MapEntry), mfind es k = some e.2 ∧ Instr.findNow kk.desc k ces i = some (some (i + j, ce.val)) ∧ es[j]? = some e ∧ ces[j]? = some ce ∧ keyEq k e.1 = true ∧ (∀ j' e', j' < j → es[j']? = some e' → keyEq k e'.1 = false)) := by
  induction h with
  | nil => intro i; exact .inl ⟨rfl, rfl, by simp⟩
  | cons hab t ih =>
    rename_i e ce es ces
    intro i
    obtain ⟨h1, h2, h3⟩ := hab
    have hsn := sameNow_keyEq hk h2
    cases hq : keyEq k e.1 with
    | true =>
      refine .inr ⟨0, e, ce, by simp [mfind, hq], ?_, rfl, rfl, hq, by simp⟩
      simp [Instr.findNow, h1, hsn, hq]
    | false =>
      rcases ih (i + 1) with ⟨a, b, c⟩ | ⟨j, e', ce', a, b, c, d, f, g⟩
      · refine .inl ⟨by simp [mfind, hq, a], by simp [Instr.findNow, h1, hsn, hq, b], ?_⟩
        intro x hx
        rcases List.mem_cons.1 hx with rfl | hx
        · exact hq
        · exact c x hx
      · refine .inr ⟨j + 1, e', ce', by simp [mfind, hq, a], by simp [Instr.findNow, h1, hsn, hq, b]; omega, by simpa using c, by simpa using d, f, ?_⟩
        intro j' x hj hx
        cases j' with
        | zero => simp at hx; subst hx; exact hq
        | succ j' => exact g j' x (by omega) (by simpa using hx)

theorem VRel.map {r : Nat} {v' : Value} (h : VRel ι (.map (some r)) v') : ∃ l, ι r = some l ∧ v' = .map (some l.b) := by
  have hc := h.cell rfl
  cases hc with | s hc => cases hc with | map h' => exact ⟨_, h', rfl⟩
theorem VRel.mapNil {v' : Value} (h : VRel ι (.map none) v') : v' = .map none := vrel_eq rfl h

theorem sim_lookup {t kt e : TypeId} {kk : KK} {z x k cx ck : Value} {ok : Bool} {K : Value → H → Prop} (hu : P.underlying t = some (.map kt e)) (hz : zeroOf P e = some z) (hkk : kkOf P kt = some kk)
    (hr : HRel P W ι h w) (hx : VRel ι x cx) (hkr : VRel ι k ck) (hk : o_lookup kk z x k ok h fun v => K v h) : Sim P W ι (Instr.lookup t cx ck ok) w K := by
  obtain ⟨hkey, hk⟩ := hk
  obtain rfl := kkHas_vrel hkey hkr
  have hzr : ARel ι z z := arel_self (zeroOf_spec hz).1
  have pairR : ∀ v cv q, ARel ι v cv → VRel ι (bif ok then .tuple #[v, .bool q] else v) (bif ok then .tuple #[cv, .bool q] else cv) := by
    intro v cv q hv
    cases ok with
    | true => exact .tuple (.cons hv (.cons (.c (.s (.bool q))) .nil))
    | false => exact .a hv
  split at hk
  · obtain rfl := hx.mapNil
    refine Sim.quiet (cv := bif ok then .tuple #[z, .bool false] else z) hr ?_ (pairR z z false hzr) hk
    have hf : (Instr.findKey kt ck [] : Sem _).run P w = .ok none w := by simp [Instr.findKey, run_und (kkOf_spec hkk), Instr.findNow]
    cases ok <;> simp [Instr.lookup, run_und hu, run_checkKey' hkk hkey, hf, run_zero hz]
  · rename_i m
    obtain ⟨l, hl, rfl⟩ := hx.map
    split at hk
    · rename_i kk' es c hm
      obtain ⟨rfl, hk⟩ := hk
      obtain ⟨_, _, ces, h1, h2, _⟩ := hr.obj' hm hl
      have hg : (getObj l.b).run P w = .ok (.map ces c) w := by simp [getObj, Sem.run, h1]
      rcases find_spec hkey h2 0 with ⟨h3, h4, _⟩ | ⟨j, e', ce, h3, h4, h5, h6, _⟩
      · rw [h3] at hk
        refine Sim.quiet (cv := bif ok then .tuple #[z, .bool false] else z) hr ?_ (pairR z z false hzr) hk
        have hf : (Instr.findKey kt ck ces.toList : Sem _).run P w = .ok none w := by simp [Instr.findKey, run_und (kkOf_spec hkk), h4]
        cases ok <;> simp [Instr.lookup, run_und hu, hg, run_checkKey' hkk hkey, hf, run_zero hz]
      · rw [h3] at hk
        obtain ⟨ce', hce', _, _, hval⟩ := h2.get h5
        rw [h6] at hce'; cases hce'
        refine Sim.quiet (cv := bif ok then .tuple #[ce.val, .bool true] else ce.val) hr ?_ (pairR _ _ true hval) hk
        have hf : (Instr.findKey kt ck ces.toList : Sem _).run P w = .ok (some (j, ce.val)) w := by simp [Instr.findKey, run_und (kkOf_spec hkk), h4]
        cases ok <;> simp [Instr.lookup, run_und hu, hg, run_checkKey' hkk hkey, hf]
    · exact hk.elim
  · exact hk.elim

theorem mset_new {es : List (Value × Value)} {k v : Value} (h : ∀ e ∈ es, keyEq k e.1 = false) : mset es k v = es ++ [(k, v)] := by
  induction es with
  | nil => rfl
  | cons e es ih => simp [mset, h e (by simp), ih fun x hx => h x (by simp [hx])]
theorem mset_at {k v : Value} : ∀ {es : List (Value × Value)} {j : Nat} {e : Value × Value}, es[j]? = some e → keyEq k e.1 = true → (∀ j' e', j' < j → es[j']? = some e' → keyEq k e'.1 = false) → mset es k v = es.set j (k, v)
  | [], j, e, h, _, _ => by simp at h
  | x :: es, 0, e, h, hk, _ => by simp at h; subst h; simp [mset, hk]
  | x :: es, j + 1, e, h, hk, hn => by
    have h0 := hn 0 x (by omega) rfl
    simp [mset, h0]
    exact mset_at (by simpa using h) hk fun j' e' hj he => hn (j' + 1) e' (by omega) (by simpa using he)
theorem mdel_new {es : List (Value × Value)} {k : Value} (h : ∀ e ∈ es, keyEq k e.1 = false) : mdel es k = es := by
  induction es with
  | nil => rfl
  | cons e es ih => simp [mdel, h e (by simp), ih fun x hx => h x (by simp [hx])]
theorem mdel_at {k : Value} : ∀ {es : List (Value × Value)} {j : Nat} {e : Value × Value}, es[j]? = some e → keyEq k e.1 = true → (∀ j' e', j' < j → es[j']? = some e' → keyEq k e'.1 = false) → mdel es k = es.eraseIdx j
  | [], j, e, h, _, _ => by simp at h
  | x :: es, 0, e, h, hk, _ => by simp at h; subst h; simp [mdel, hk]
  | x :: es, j + 1, e, h, hk, hn => by
    have h0 := hn 0 x (by omega) rfl
    simp [mdel, h0]
    exact mdel_at (by simpa using h) hk fun j' e' hj he => hn (j' + 1) e' (by omega) (by simpa using he)
theorem All2.eraseIdx {α β : Type} {R : α → β → Prop} {l : List α} {m : List β} (h : All2 R l m) (i : Nat) : All2 R (l.eraseIdx i) (m.eraseIdx i) := by
  induction h generalizing i with
  | nil => exact .nil
  | cons h t ih => cases i with
    | zero => exact t
    | succ i => exact .cons h (ih i)

theorem map_set_blk (hr : HRel P W ι h w) {m : Nat} {l : Loc} {kk : KK} {es es' : List (Value × Value)} {c c' : Nat} {ces ces' : Array MapEntry} (hm : h m = some (.map kk es c)) (hl : ι m = some l) (h1 : w.heap[l.b]? = some (.map ces c))
    (hc : c ≤ c') (hsub : c' = c → ∀ ce' ∈ ces'.toList, ∃ ce ∈ ces.toList, ce.born = ce'.born ∧ ce.key = ce'.key)
    (h2 : All2 (ERel ι kk) es' ces'.toList) (hb : ∀ ce ∈ ces'.toList, ce.born < c') (hn : (ces'.toList.map (·.born)).Nodup) (hp : es'.Pairwise fun a b => keyEq a.1 b.1 = false) :
    HRel P W ι (upd h m (.map kk es' c')) (setBlk w l.b (.map ces' c')) := by
  have hlt : l.b < w.heap.size := (Array.getElem?_eq_some_iff.1 h1).1
  obtain ⟨hB, ho, _⟩ := hr.obj' hm hl
  refine hr.set hm hl rfl (setBlk_size _ _ _) (fun c hc => setBlk_ne _ _ hc) rfl rfl rfl hB ?_ ⟨hB, ho, ces', setBlk_same _ _ hlt, h2, hb, hn, hp⟩
  intro es1 cl1 he
  rw [setBlk_same _ _ hlt] at he
  cases he
  exact ⟨ces, c, h1, hc, hsub⟩

theorem sim_mapUpdate {t kt e : TypeId} {kk : KK} {m k v cm ck cv : Value} {K : H → Prop} (hu : P.underlying t = some (.map kt e)) (hkk : kkOf P kt = some kk)
    (hr : HRel P W ι h w) (hm : VRel ι m cm) (hkr : VRel ι k ck) (hv : VRel ι v cv) (hk : o_mapUpdate kk m k v h K) : SimU P W ι (Instr.mapUpdate t cm ck cv) w K := by
  obtain ⟨hkey, hbox, hk⟩ := hk
  obtain rfl := kkHas_vrel hkey hkr
  split at hk
  · rename_i b
    obtain ⟨l, hl, rfl⟩ := hm.map
    split at hk
    · rename_i kk' es c hb
      obtain ⟨rfl, hk⟩ := hk
      obtain ⟨_, _, ces, h1, h2, h3, h4, h5⟩ := hr.obj' hb hl
      have hg : (getObj l.b).run P w = .ok (.map ces c) w := by simp [getObj, Sem.run, h1]
      have hs : ∀ O, (setObj l.b O).run P w = .ok () (setBlk w l.b O) := fun O => by simp [setObj, Sem.run, h1, setBlk]
      rcases find_spec hkey h2 0 with ⟨h6, h7, h8⟩ | ⟨j, e', ce, h6, h7, h8, h9, h10, h11⟩
      · have hf : (Instr.findKey kt ck ces.toList : Sem _).run P w = .ok none w := by simp [Instr.findKey, run_und (kkOf_spec hkk), h7]
        refine ⟨_, ι, _, by simp [Instr.mapUpdate, run_und hu, hg, run_checkKey' hkk hkey, hf, hs]; rfl, Env.le_refl _, ?_, hk⟩
        rw [show mhas es ck = false by simp [mhas, h6], if_neg (by simp), mset_new h8]
        refine map_set_blk hr hb hl h1 (by omega) (fun he => by omega) ?_ ?_ ?_ ?_
        · simp only [Array.toList_push]
          exact h2.append (.cons ⟨rfl, hkey, hv.toA hbox⟩ .nil)
        · intro x hx
          simp only [Array.toList_push, List.mem_append, List.mem_singleton] at hx
          rcases hx with hx | rfl
          · have := h3 x hx; omega
          · simp
        · simp only [Array.toList_push, List.map_append, List.map_cons, List.map_nil]
          refine List.nodup_append.2 ⟨h4, by simp, ?_⟩
          intro a ha b' hb'
          obtain ⟨x, hx, rfl⟩ := List.mem_map.1 ha
          simp at hb'
          have := h3 x hx; omega
        · refine List.pairwise_append.2 ⟨h5, by simp, ?_⟩
          intro a ha b' hb'
          simp at hb'
          subst hb'
          have h12 := h8 a ha
          cases hq : keyEq a.1 ck with
          | false => rfl
          | true =>
            obtain ⟨i, hi⟩ := List.mem_iff_getElem?.1 ha
            obtain ⟨ce, _, _, hkk', _⟩ := h2.get hi
            rw [(keyEq_iff hkk' hkey).1 hq] at h12
            have := (keyEq_iff hkey hkey).2 rfl
            rw [this] at h12; cases h12
      · have hf : (Instr.findKey kt ck ces.toList : Sem _).run P w = .ok (some (j, ce.val)) w := by simp [Instr.findKey, run_und (kkOf_spec hkk), h7]
        obtain ⟨ce', hce', hkeye, hkk', hval⟩ := h2.get h8
        rw [h9] at hce'; cases hce'
        have hek : e'.1 = ck := ((keyEq_iff hkey hkk').1 h10).symm
        have hj : ces[j]? = some ce := by simpa using h9
        have hck : ce.key = ck := hkeye.trans hek
        have hkt : (Instr.keyThatStays ck ck).run P w = .ok ck w := by simp [Instr.keyThatStays, sameBits_key hkey]
        refine ⟨_, ι, _, by simp [Instr.mapUpdate, run_und hu, hg, run_checkKey' hkk hkey, hf, hj, hck, hkt, hs]; rfl, Env.le_refl _, ?_, hk⟩
        rw [show mhas es ck = true by simp [mhas, h6], if_pos rfl, mset_at h8 h10 h11]
        have hml : ∀ (f : MapEntry → MapEntry), (ces.modify j f).toList = ces.toList.modify j f := fun f => by simp
        have hmod : (ces.modify j fun e => { e with key := ck, val := cv }).toList = ces.toList.set j { ce with key := ck, val := cv } := by
          apply List.ext_getElem?
          intro i
          rw [hml, List.getElem?_modify, List.getElem?_set]
          by_cases hij : j = i
          · subst hij
            have : j < ces.toList.length := (List.getElem?_eq_some_iff.1 h9).1
            have hjs : j < ces.size := by simpa using this
            have hje : ces[j] = ce := (Array.getElem?_eq_some_iff.1 hj).2
            simp [hjs, hje]
          · simp [hij]
        refine map_set_blk hr hb hl h1 (Nat.le_refl _) (fun _ => ?_) ?_ ?_ ?_ ?_
        · intro x hx
          rw [hmod] at hx
          rcases List.mem_or_eq_of_mem_set hx with hx | rfl
          · exact ⟨x, hx, rfl, rfl⟩
          · exact ⟨ce, List.mem_iff_getElem?.2 ⟨j, h9⟩, rfl, hck⟩
        · rw [hmod]; exact h2.set j ⟨rfl, hkey, hv.toA hbox⟩
        · intro x hx
          rw [hmod] at hx
          rcases List.mem_or_eq_of_mem_set hx with hx | rfl
          · exact h3 x hx
          · exact h3 ce (List.mem_iff_getElem?.2 ⟨j, h9⟩)
        · rw [hmod, List.map_set]
          have : (ces.toList.map (·.born)).set j ce.born = ces.toList.map (·.born) := by
            apply List.ext_getElem?
            intro i
            rw [List.getElem?_set]
            by_cases hij : j = i
            · subst hij
              have : j < ces.toList.length := (List.getElem?_eq_some_iff.1 h9).1
              have hjs : j < ces.size := by simpa using this
              have hje : ces[j] = ce := (Array.getElem?_eq_some_iff.1 hj).2
              simp [hjs, hje]
            · simp [hij]
          simp only [this]; exact h4
        · have e1 : (es.set j (ck, v)).map (·.1) = es.map (·.1) := by
            apply List.ext_getElem?
            intro i
            rw [List.map_set, List.getElem?_set]
            by_cases hij : j = i
            · subst hij
              have : j < es.length := (List.getElem?_eq_some_iff.1 h8).1
              have hje : es[j] = e' := (List.getElem?_eq_some_iff.1 h8).2
              simp [this, hje, hek]
            · simp [hij]
          have e2 : ∀ l : List (Value × Value), l.Pairwise (fun a b => keyEq a.1 b.1 = false) ↔ (l.map (·.1)).Pairwise (fun a b => keyEq a b = false) := fun l => by simp [List.pairwise_map]
          rw [e2, e1, ← e2]; exact h5
    · exact hk.elim
  · exact hk.elim

theorem sim_delete {t kt e : TypeId} {kk : KK} {m k cm ck : Value} {ts : Array TypeId} {ty : TypeId} {K : Value → H → Prop} (hu : P.underlying t = some (.map kt e)) (hkk : kkOf P kt = some kk) (ht : ts[0]? = some t)
    (hr : HRel P W ι h w) (hm : VRel ι m cm) (hkr : VRel ι k ck) (hk : o_delete kk m k h fun h => K undef h) : Sim P W ι (Builtin.delete_ ts ty #[cm, ck]) w K := by
  obtain ⟨hkey, hk⟩ := hk
  obtain rfl := kkHas_vrel hkey hkr
  split at hk
  · obtain rfl := hm.mapNil
    exact Sim.quiet (cv := undef) hr (by simp [Builtin.delete_, ht, run_und hu, run_checkKey' hkk hkey]; rfl) VRel.undef hk
  · rename_i b
    obtain ⟨l, hl, rfl⟩ := hm.map
    split at hk
    · rename_i kk' es c hb
      obtain ⟨rfl, hk⟩ := hk
      obtain ⟨_, _, ces, h1, h2, h3, h4, h5⟩ := hr.obj' hb hl
      have hg : (getObj l.b).run P w = .ok (.map ces c) w := by simp [getObj, Sem.run, h1]
      have hs : ∀ O, (setObj l.b O).run P w = .ok () (setBlk w l.b O) := fun O => by simp [setObj, Sem.run, h1, setBlk]
      rcases find_spec hkey h2 0 with ⟨h6, h7, h8⟩ | ⟨j, e', ce, h6, h7, h8, h9, h10, h11⟩
      · have hf : (Instr.findKey kt ck ces.toList : Sem _).run P w = .ok none w := by simp [Instr.findKey, run_und (kkOf_spec hkk), h7]
        refine ⟨undef, setBlk w l.b (.map ces c), ι, undef, _, by simp [Builtin.delete_, ht, run_und hu, hg, run_checkKey' hkk hkey, hf, hs]; rfl, Env.le_refl _, ?_, VRel.undef, hk⟩
        rw [mdel_new h8]
        exact map_set_blk hr hb hl h1 (Nat.le_refl _) (fun _ x hx => ⟨x, hx, rfl, rfl⟩) h2 h3 h4 h5
      · have hf : (Instr.findKey kt ck ces.toList : Sem _).run P w = .ok (some (j, ce.val)) w := by simp [Instr.findKey, run_und (kkOf_spec hkk), h7]
        have hj : j < ces.size := by have := (List.getElem?_eq_some_iff.1 h9).1; simpa using this
        have he : (ces.eraseIdxIfInBounds j).toList = ces.toList.eraseIdx j := by simp [Array.eraseIdxIfInBounds, hj]
        have hsub : (ces.toList.eraseIdx j).Sublist ces.toList := List.eraseIdx_sublist _ _
        refine ⟨undef, setBlk w l.b (.map (ces.eraseIdxIfInBounds j) c), ι, undef, _, by simp [Builtin.delete_, ht, run_und hu, hg, run_checkKey' hkk hkey, hf, hs]; rfl, Env.le_refl _, ?_, VRel.undef, hk⟩
        rw [mdel_at h8 h10 h11]
        refine map_set_blk hr hb hl h1 (Nat.le_refl _) (fun _ x hx => ⟨x, hsub.subset (he ▸ hx), rfl, rfl⟩) ?_ ?_ ?_ ?_
        · rw [he]; exact h2.eraseIdx j
        · intro x hx; rw [he] at hx; exact h3 x (hsub.subset hx)
        · rw [he]; exact (hsub.map _).nodup h4
        · exact h5.sublist (List.eraseIdx_sublist _ _)
    · exact hk.elim
  · exact hk.elim

theorem sim_makeMap {t kt e : TypeId} {kk : KK} {r : Option Value} {K : Value → H → Prop} (hu : P.underlying t = some (.map kt e)) (hrr : r = none ∨ ∃ k n, r = some (.int k n))
    (hr : HRel P W ι h w) (hk : o_newObj (.map kk [] 0) h fun b h => K (.map (some b)) h) : Sim P W ι (Instr.makeMap t r) w K := by
  obtain ⟨b, ι', h1, h2, h3, h4⟩ := sim_newObj (O := .map #[] 0) (o := .map kk [] 0) hr (fun b => .inl ⟨hr.below.size, rfl, #[], alloc_get_new w _, .nil, by simp, by simp, .nil⟩) hk
  refine ⟨_, _, ι', _, _, ?_, h1, h3, .a (.c (.s (.map h2))), h4⟩
  rcases hrr with rfl | ⟨k, n, rfl⟩
  · simp [Instr.makeMap]
  · simp [Instr.makeMap, run_und hu, asInt, asIntOf]

theorem keys_any {kk : KK} {es : List (Value × Value)} {e : Value × Value} (he : e ∈ es) (hk : kkHas kk e.1 = true) : (es.map (·.1)).any (keyEq e.1) = true := by
  rw [List.any_eq_true]
  exact ⟨e.1, List.mem_map.2 ⟨e, he, rfl⟩, (keyEq_iff hk hk).2 rfl⟩

theorem sim_range {t kt e : TypeId} {x cx : Value} {K : Value → H → Prop} (hu : P.underlying t = some (.map kt e)) (hr : HRel P W ι h w) (hx : VRel ι x cx) (hk : o_range x h K) : Sim P W ι (Instr.range t cx) w K := by
  unfold o_range at hk
  split at hk
  · obtain rfl := hx.mapNil
    obtain ⟨b, ι', h1, h2, h3, h4⟩ := sim_newObj (O := .mapIter none 0 #[] 0) (o := .iter none [] 0 none) hr (fun b => .inl ⟨hr.below.size, rfl, none, 0, #[], 0, alloc_get_new w _, rfl⟩) hk
    exact ⟨_, _, ι', _, _, by simp [Instr.range, run_und hu], h1, h3, vrel_ptr_new h2, h4⟩
  · rename_i m
    obtain ⟨l, hl, rfl⟩ := hx.map
    split at hk
    · rename_i kk es c hm
      obtain ⟨_, _, ces, g1, g2, g3, g4, g5⟩ := hr.obj' hm hl
      have hg : (getObj l.b).run P w = .ok (.map ces c) w := by simp [getObj, Sem.run, g1]
      have hlt : l.b < w.heap.size := (Array.getElem?_eq_some_iff.1 g1).1
      obtain ⟨b, ι', h1, h2, h3, h4⟩ := sim_newObj (O := .mapIter (some l.b) c #[] c) (o := .iter (some m) (es.map (·.1)) c none) hr (fun b => by
        by_cases hb : ι b = none
        · refine .inl ⟨hr.below.size, rfl, some l.b, c, #[], c, alloc_get_new w _, l, Env.le_set _ hb _ _ hl, rfl, rfl, rfl, ?_, fun k hk => by cases hk⟩
          intro ces' clock' hc'
          rw [alloc_get_lt _ _ hlt, g1] at hc'
          cases hc'
          refine ⟨Nat.le_refl _, fun _ ce hce => ?_⟩
          obtain ⟨i, hi⟩ := List.mem_iff_getElem?.1 hce
          obtain ⟨e', he', hk', hkk', _⟩ := g2.get' hi
          have := keys_any (List.mem_iff_getElem?.2 ⟨i, he'⟩) hkk'
          rw [hk', this]; simp
        · exact .inr hb) hk
      exact ⟨_, _, ι', _, _, by simp [Instr.range, run_und hu, hg], h1, h3, vrel_ptr_new h2, h4⟩
    · exact hk.elim
  · exact hk.elim

theorem sim_next {it cit : Value} {ty : TypeId} {K : Value → H → Prop} (hr : HRel P W ι h w) (hi : VRel ι it cit) (hk : o_next it h K) : Sim P W ι (Instr.next cit false ty) w K := by
  unfold o_next at hk
  split at hk
  · rename_i b
    obtain ⟨l, hl, rfl⟩ := hi.ptr
    split at hk
    · rename_i left since cur hb
      obtain ⟨_, ho, cm, since', seen, stepped, h1, rfl⟩ := hr.obj' hb hl
      have hg : (getObj l.b).run P w = .ok (.mapIter none since' seen stepped) w := by simp [getObj, Sem.run, h1]
      exact Sim.quiet (cv := .tuple #[.bool false]) hr (by simp [Instr.next, ho, hg]) (vrel_self rfl) hk
    · rename_i m left since cur hb
      obtain ⟨hB, ho, cm, since', seen, stepped, h1, lm, hlm, rfl, rfl, rfl, hmm, _⟩ := hr.obj' hb hl
      have hg : (getObj l.b).run P w = .ok (.mapIter (some lm.b) stepped seen stepped) w := by simp [getObj, Sem.run, h1]
      split at hk
      · rename_i kk es c hm
        obtain ⟨rfl, hk1, hk2⟩ := hk
        obtain ⟨_, _, ces, g1, g2, g3, g4, g5⟩ := hr.obj' hm hlm
        have hgm : (getObj lm.b).run P w = .ok (.map ces c) w := by simp [getObj, Sem.run, g1]
        have hseen := (hmm ces c g1).2 rfl
        have hall : (!seen.isEmpty && !ces.isEmpty && ces.all (fun e => decide (e.born ≥ c))) = false := by
          cases hce : ces.toList with
          | nil =>
            have : ces = #[] := Array.ext' hce
            subst this; simp
          | cons x xs =>
            have hx := g3 x (by rw [hce]; simp)
            have : ces.all (fun e => decide (e.born ≥ c)) = false := by
              rw [← Array.all_toList, hce]
              simp; intro h; omega
            simp [this]
        have hnew : ∀ l' : Array MapEntry, (∀ x ∈ l'.toList, x ∈ ces.toList) → l'.filter (fun e => decide (e.born < c)) = l' ∧ l'.filter (fun e => decide (e.born ≥ c)) = #[] := by
          intro l' hl'
          constructor
          · rw [Array.filter_eq_self]
            intro a ha
            have := g3 a (hl' a (by simpa using ha)); simpa using this
          · rw [Array.filter_eq_empty_iff]
            intro a ha
            have := g3 a (hl' a (by simpa using ha)); simpa using this
        generalize hleft : ces.filter (fun e => !seen.contains e.born) = L
        have hLmem : ∀ x, x ∈ L.toList ↔ x ∈ ces.toList ∧ x.born ∉ seen.toList := by
          intro x; rw [← hleft]; simp
        obtain ⟨e1, e2⟩ := hnew L (fun x hx => ((hLmem x).1 hx).1)
        cases hL : L.toList with
        | nil =>
          have hLe : L = #[] := Array.ext' hL
          refine Sim.quiet (cv := .tuple #[.bool false]) hr ?_ (vrel_self rfl) (hk2 fun e he => ?_)
          · simp only [Instr.next, ho, Sem.run_bind, Nat.add_zero, hg, Result.andThen_ok, hgm]
            simp only [hall, Bool.false_eq_true, if_false, hleft, hLe]
            simp [Question.forced]
          · obtain ⟨i, hi'⟩ := List.mem_iff_getElem?.1 he
            obtain ⟨ce, hce, hk', hkk', _⟩ := g2.get hi'
            have hmem := List.mem_iff_getElem?.2 ⟨i, hce⟩
            rw [← hk']
            refine (hseen ce hmem).1 ?_
            by_cases hs : ce.born ∈ seen.toList
            · exact hs
            · have := (hLmem ce).2 ⟨hmem, hs⟩
              rw [hL] at this; cases this
        | cons x xs =>
          have hne : L.isEmpty = false := by
            cases hq : L.isEmpty with
            | false => rfl
            | true => rw [Array.isEmpty_iff] at hq; rw [hq] at hL; cases hL
          have hpos : 0 < L.size := by rw [← Array.length_toList, hL]; simp
          have hcand : ((if L.isEmpty = true then #[none] else #[]) ++ (L ++ #[]).map some : Array (Option MapEntry)) = L.map some := by simp [hne]
          have hchoose : ∃ j w1, (choose (.mapNext (L.map some).size)).run P w = .ok j w1 ∧ j < L.size ∧ w1.heap = w.heap ∧ w1.os = w.os ∧ w1.tape = w.tape ∧ w1.output = w.output := by
            rw [run_choose]
            split
            · exact ⟨0, w, rfl, hpos, rfl, rfl, rfl, rfl⟩
            · exact ⟨_, _, rfl, by simp [Question.cut]; exact Nat.mod_lt _ hpos, rfl, rfl, rfl, rfl⟩
          obtain ⟨j, w1, hch, hj, hw1, hw2, hw3, hw4⟩ := hchoose
          have hr1 : HRel P W ι h w1 := hr.world hw1 hw2 hw3 hw4
          generalize hce : L[j] = ce
          have hmemL : ce ∈ L.toList := by rw [← hce]; simp
          obtain ⟨hmem, hns⟩ := (hLmem ce).1 hmemL
          obtain ⟨i, hi'⟩ := List.mem_iff_getElem?.1 hmem
          obtain ⟨e, he, hk', hkk', hval⟩ := g2.get' hi'
          have hany : left.any (keyEq e.1) = true := by
            cases hq : left.any (keyEq e.1) with
            | true => rfl
            | false => rw [← hk'] at hq; exact absurd ((hseen ce hmem).2 hq) hns
          have hlt : l.b < w1.heap.size := by rw [hw1]; exact (Array.getElem?_eq_some_iff.1 h1).1
          have hs : ∀ O, (setObj l.b O).run P w1 = .ok () (setBlk w1 l.b O) := fun O => by simp [setObj, Sem.run, hw1, h1, setBlk]
          have hne' : lm.b ≠ l.b := by intro he; rw [he] at g1; rw [g1] at h1; cases h1
          refine ⟨.tuple #[.bool true, ce.key, ce.val], setBlk w1 l.b (.mapIter (some lm.b) c (seen.push ce.born) c), ι, _, _, ?_, Env.le_refl _, ?_, ?_, hk1 e (List.mem_iff_getElem?.2 ⟨i, he⟩) hany⟩
          · simp only [Instr.next, ho, Sem.run_bind, Nat.add_zero, hg, Result.andThen_ok, hgm]
            simp only [hall, Bool.false_eq_true, if_false, hleft, e1, e2, hcand]
            rw [Sem.run_bind, hch]
            have : (L.map some)[j]? = some (some ce) := by simp [hj, hce]
            simp only [Result.andThen_ok, this]
            simp [hs]
          · refine hr1.set hb hl rfl (setBlk_size _ _ _) (fun c hc => setBlk_ne _ _ hc) rfl rfl rfl hB (fun es1 cl1 he1 => by rw [setBlk_same _ _ hlt] at he1; cases he1) ?_
            refine ⟨hB, ho, some lm.b, c, seen.push ce.born, c, setBlk_same _ _ hlt, lm, hlm, rfl, rfl, rfl, ?_, ?_⟩
            rotate_left
            · intro k hkq
              cases hkq
              refine ⟨ce.born, by simp, fun ces' clock' hc' _ x hx => ?_⟩
              rw [setBlk_ne _ _ hne', hw1, g1] at hc'
              cases hc'
              obtain ⟨i2, hi2⟩ := List.mem_iff_getElem?.1 hx
              obtain ⟨e2', he2, hk2', hkk2, _⟩ := g2.get' hi2
              constructor
              · intro hxe
                have hxce : i2 = i := by
                  have hnd := List.pairwise_iff_getElem.1 g4
                  obtain ⟨a1, b1⟩ := List.getElem?_eq_some_iff.1 hi'
                  obtain ⟨a2, b2⟩ := List.getElem?_eq_some_iff.1 hi2
                  rcases Nat.lt_trichotomy i2 i with hlt' | heq | hgt
                  · exfalso
                    have := hnd i2 i (by simpa using a2) (by simpa using a1) hlt'
                    simp only [List.getElem_map, b1, b2] at this
                    exact this hxe
                  · exact heq
                  · exfalso
                    have := hnd i i2 (by simpa using a1) (by simpa using a2) hgt
                    simp only [List.getElem_map, b1, b2] at this
                    exact this hxe.symm
                subst hxce
                rw [hi'] at hi2; cases hi2
                exact hk'
              · intro hxk
                by_cases hii : i2 = i
                · subst hii; rw [hi'] at hi2; cases hi2; rfl
                · exfalso
                  have heq : e2'.1 = e.1 := by rw [← hk2']; exact hxk
                  have hkeq : keyEq e2'.1 e.1 = true ∧ keyEq e.1 e2'.1 = true := ⟨(keyEq_iff hkk2 hkk').2 heq, (keyEq_iff hkk' hkk2).2 heq.symm⟩
                  rw [List.pairwise_iff_getElem] at g5
                  obtain ⟨a1, b1⟩ := List.getElem?_eq_some_iff.1 he2
                  obtain ⟨a2, b2⟩ := List.getElem?_eq_some_iff.1 he
                  rcases Nat.lt_or_gt_of_ne hii with hlt' | hgt
                  · have := g5 i2 i a1 a2 hlt'
                    rw [b1, b2, hkeq.1] at this; cases this
                  · have := g5 i i2 a2 a1 hgt
                    rw [b1, b2, hkeq.2] at this; cases this
            intro ces' clock' hc'
            rw [setBlk_ne _ _ hne', hw1, g1] at hc'
            cases hc'
            refine ⟨Nat.le_refl _, fun _ x hx => ?_⟩
            obtain ⟨i2, hi2⟩ := List.mem_iff_getElem?.1 hx
            obtain ⟨e2', he2, hk2', hkk2, _⟩ := g2.get' hi2
            have hfil : (left.filter fun k => !keyEq e.1 k).any (keyEq x.key) = (left.any fun k => keyEq x.key k && !keyEq e.1 k) := by
              rw [List.any_filter]; congr 1; funext k; rw [Bool.and_comm]
            rw [hfil]
            simp only [Array.toList_push, List.mem_append, List.mem_singleton]
            by_cases hxe : x.born = ce.born
            · have hxce : i2 = i := by
                have hnd := List.pairwise_iff_getElem.1 g4
                obtain ⟨a1, b1⟩ := List.getElem?_eq_some_iff.1 hi'
                obtain ⟨a2, b2⟩ := List.getElem?_eq_some_iff.1 hi2
                rcases Nat.lt_trichotomy i2 i with hlt' | heq | hgt
                · exfalso
                  have := hnd i2 i (by simpa using a2) (by simpa using a1) hlt'
                  simp only [List.getElem_map, b1, b2] at this
                  exact this hxe
                · exact heq
                · exfalso
                  have := hnd i i2 (by simpa using a1) (by simpa using a2) hgt
                  simp only [List.getElem_map, b1, b2] at this
                  exact this hxe.symm
              subst hxce
              rw [he] at he2; cases he2
              rw [hi'] at hi2; cases hi2
              simp only [hk', or_true, true_iff]
              rw [List.any_eq_false]
              intro k _
              cases keyEq e.1 k <;> simp
            · have hne2 : e2'.1 ≠ e.1 := by
                intro heq
                have hii : i2 ≠ i := by
                  rintro rfl
                  rw [hi'] at hi2; cases hi2; exact hxe rfl
                have hkeq : keyEq e2'.1 e.1 = true ∧ keyEq e.1 e2'.1 = true := ⟨(keyEq_iff hkk2 hkk').2 heq, (keyEq_iff hkk' hkk2).2 heq.symm⟩
                rw [List.pairwise_iff_getElem] at g5
                rcases Nat.lt_or_gt_of_ne hii with hlt' | hgt
                · obtain ⟨a1, b1⟩ := List.getElem?_eq_some_iff.1 he2
                  obtain ⟨a2, b2⟩ := List.getElem?_eq_some_iff.1 he
                  have := g5 i2 i a1 a2 hlt'
                  rw [b1, b2, hkeq.1] at this; cases this
                · obtain ⟨a1, b1⟩ := List.getElem?_eq_some_iff.1 he2
                  obtain ⟨a2, b2⟩ := List.getElem?_eq_some_iff.1 he
                  have := g5 i i2 a2 a1 hgt
                  rw [b1, b2, hkeq.2] at this; cases this
              have hboth : ∀ k, keyEq x.key k = true → keyEq e.1 k = false := by
                intro k hk1'
                cases hq : keyEq e.1 k with
                | false => rfl
                | true =>
                  exfalso
                  exact hne2 (by rw [← hk2', keyEq_eq hk1', keyEq_eq hq])
              have : (left.any fun k => keyEq x.key k && !keyEq e.1 k) = left.any (keyEq x.key) := by
                congr 1; funext k
                cases hq : keyEq x.key k with
                | false => rfl
                | true => simp [hboth k hq]
              rw [this, ← hseen x hx]
              simp [hxe]
          · rw [hk']
            exact .tuple (.cons (.c (.s (.bool true))) (.cons (.c (crel_self (kkHas_self hkk'))) (.cons hval .nil)))
      · exact hk.elim
    · exact hk.elim
  · exact hk.elim

theorem sim_entry {it cit : Value} {K : Value → H → Prop} (hr : HRel P W ι h w) (hi : VRel ι it cit) (hk : o_entry it h fun v => K v h) : Sim P W ι (Instr.entry cit) w K := by
  unfold o_entry at hk
  split at hk
  · rename_i b
    obtain ⟨l, hl, rfl⟩ := hi.ptr
    split at hk
    · rename_i m left since k hb
      obtain ⟨hB, ho, cm, since', seen, stepped, h1, lm, hlm, rfl, rfl, rfl, hmm, hcur⟩ := hr.obj' hb hl
      obtain ⟨st, hst, hent⟩ := hcur k rfl
      have hg : (getObj l.b).run P w = .ok (.mapIter (some lm.b) stepped seen stepped) w := by simp [getObj, Sem.run, h1]
      split at hk
      · rename_i kk es c hm
        obtain ⟨rfl, hk⟩ := hk
        obtain ⟨_, _, ces, g1, g2, g3, g4, g5⟩ := hr.obj' hm hlm
        have hgm : (getObj lm.b).run P w = .ok (.map ces c) w := by simp [getObj, Sem.run, g1]
        have hent := hent ces c g1 rfl
        split at hk
        · rename_i v hv
          have hfind : ∀ (es : List (Value × Value)) v, mfind es k = some v → ∃ (j : Nat) (e : Value × Value), es[j]? = some e ∧ keyEq k e.1 = true ∧ e.2 = v := by
            intro es
            induction es with
            | nil => intro v h; cases h
            | cons e es ih =>
              intro v h
              simp only [mfind] at h
              cases hq : keyEq k e.1
              · rw [hq, cond_false] at h
                obtain ⟨j, e', h1, h2, h3⟩ := ih v h
                exact ⟨j + 1, e', by simpa using h1, h2, h3⟩
              · rw [hq, cond_true] at h; cases h
                exact ⟨0, e, rfl, hq, rfl⟩
          obtain ⟨j, e, hj, hkq, rfl⟩ := hfind es v hv
          obtain ⟨ce, hce, hck, hkk, hval⟩ := g2.get hj
          have hke : k = e.1 := keyEq_eq hkq
          have hcem : ce ∈ ces.toList := List.mem_of_getElem? hce
          have hborn : ce.born = st := (hent ce hcem).2 (by rw [hck, hke])
          have hfd : ces.find? (fun x => x.born == st) = some ce := by
            have hfl : ces.toList.find? (fun x => x.born == st) = some ce := by
              have : ∃ x, ces.toList.find? (fun x => x.born == st) = some x := by
                cases hq : ces.toList.find? (fun x => x.born == st) with
                | some x => exact ⟨x, rfl⟩
                | none =>
                  have := List.find?_eq_none.1 hq ce hcem
                  simp [hborn] at this
              obtain ⟨x, hx⟩ := this
              rw [hx]
              have hxb : x.born = st := by simpa using List.find?_some hx
              have hxm : x ∈ ces.toList := List.mem_of_find?_eq_some hx
              obtain ⟨i1, q1⟩ := List.mem_iff_getElem?.1 hxm
              have hnd := List.pairwise_iff_getElem.1 g4
              obtain ⟨a1, b1⟩ := List.getElem?_eq_some_iff.1 q1
              obtain ⟨a2, b2⟩ := List.getElem?_eq_some_iff.1 hce
              rcases Nat.lt_trichotomy i1 j with hlt' | heq | hgt
              · exfalso
                have := hnd i1 j (by simpa using a1) (by simpa using a2) hlt'
                simp only [List.getElem_map, b1, b2] at this
                exact this (by rw [hxb, hborn])
              · subst heq; rw [q1] at hce; exact hce
              · exfalso
                have := hnd j i1 (by simpa using a2) (by simpa using a1) hgt
                simp only [List.getElem_map, b1, b2] at this
                exact this (by rw [hxb, hborn])
            simpa using hfl
          refine Sim.quiet (cv := .tuple #[ce.key, ce.val]) hr ?_ (.tuple (.cons ?_ (.cons hval .nil))) hk
          · simp only [Instr.entry, ho, Sem.run_bind, Nat.add_zero, hg, Result.andThen_ok, hst, hgm]
            simp [hfd]
          · rw [hck, ← hke]
            have : kkHas kk k = true := by rw [hke]; exact hkk
            exact arel_self (by unfold kkHas at this; split at this <;> first | rfl | cases this)
        · exact hk.elim
      · exact hk.elim
    · exact hk.elim
  · exact hk.elim
end
end Go.Proofs.YtbmfblmebhobiaaGreat.AM

/-
  The operations in the abstract memory tell what the model's operations do: slices, append, copy, literals, conversions.
-/
set_option linter.unusedSimpArgs false
set_option linter.unusedVariables false
namespace Go.Proofs.YtbmfblmebhobiaaGreat.AM
open Go.RowKit
section
variable {P : Program} {W : World} {ι : Env} {h : H} {w : World}

/-! ### Literals -/
theorem foldl_rel : ∀ (l l' : List (Value × Nat)) (cs cs' : Array Value) (off : Nat), All2 (fun a b => CRel ι a.1 b.1 ∧ a.2 = b.2) l l' → All2 (CRel ι) cs.toList cs'.toList →
    All2 (CRel ι) (l.foldl (fun cs x => cs.setIfInBounds (off + x.2) x.1) cs).toList (l'.foldl (fun cs x => cs.setIfInBounds (off + x.2) x.1) cs').toList := by
  intro l l' cs cs' off hl
  induction hl generalizing cs cs' with
  | nil => exact fun h => h
  | cons hab _ ih =>
    rename_i a b l l' _
    intro hc
    simp only [List.foldl_cons]
    refine ih _ _ ?_
    obtain ⟨h1, h2⟩ := hab
    simp only [Array.toList_setIfInBounds, h2]
    exact hc.set _ h1
theorem zip_rel {xs ys : List Value} (hx : All2 (CRel ι) xs ys) : ∀ n, All2 (fun a b : Value × Nat => CRel ι a.1 b.1 ∧ a.2 = b.2) (xs.zipIdx n) (ys.zipIdx n) := by
  induction hx with
  | nil => intro n; exact .nil
  | cons h _ ih => intro n; exact .cons ⟨h, rfl⟩ (ih (n + 1))
theorem fill_rel (place : Nat → Option (Nat × Nat)) : ∀ (ps ps' : List (Nat × Value)) (cells cells' : Array Value) (r : Array Value), All2 (fun a b => a.1 = b.1 ∧ ARel ι a.2 b.2) ps ps' → All2 (CRel ι) cells.toList cells'.toList →
    Instr.fill place cells ps = some r → ∃ r', Instr.fill place cells' ps' = some r' ∧ All2 (CRel ι) r.toList r'.toList := by
  intro ps ps' cells cells' r hp
  induction hp generalizing cells cells' with
  | nil => intro hc hf; simp only [Instr.fill] at hf; cases hf; exact ⟨_, rfl, hc⟩
  | cons hab _ ih =>
    rename_i a b ps ps' _
    obtain ⟨i, v⟩ := a
    obtain ⟨i', v'⟩ := b
    obtain ⟨e, hv⟩ := hab
    simp only at e hv
    subst e
    intro hc hf
    simp only [Instr.fill] at hf ⊢
    split at hf
    · cases hf
    · rename_i off size hpl
      split at hf
      · cases hf
      · rename_i hcond
        have hs := hv.size
        have hsz : cells'.size = cells.size := by simpa using hc.length.symm
        rw [if_neg (by rw [hs, hsz]; exact hcond)]
        refine ih _ _ ?_ hf
        have := foldl_rel v.cells.toList.zipIdx v'.cells.toList.zipIdx cells cells' off (zip_rel hv.cells 0) hc
        rw [← Array.foldl_toList, ← Array.foldl_toList, Array.toList_zipIdx, Array.toList_zipIdx]
        exact this

theorem parts_rel {ps : List (Nat × Operand)} {ρ ρ' : Operand → Value} (hρ : ∀ p ∈ ps, VRel ι (ρ p.2) (ρ' p.2)) (hb : (ps.map fun p => (p.1, ρ p.2)).all (fun p => boxV p.2) = true) :
    All2 (fun a b : Nat × Value => a.1 = b.1 ∧ ARel ι a.2 b.2) (ps.map fun p => (p.1, ρ p.2)) (ps.map fun p => (p.1, ρ' p.2)) := by
  induction ps with
  | nil => exact .nil
  | cons p ps ih =>
    simp only [List.map_cons, List.all_cons, Bool.and_eq_true] at hb
    exact .cons ⟨rfl, (hρ p (by simp)).toA hb.1⟩ (ih (fun q hq => hρ q (by simp [hq])) hb.2)

theorem sim_build {t : TypeId} {ps ps' : List (Nat × Value)} {K : Value → H → Prop} (hr : HRel P W ι h w) (hp : ps.all (fun p => boxV p.2) = true → All2 (fun a b => a.1 = b.1 ∧ ARel ι a.2 b.2) ps ps')
    (hk : o_build P t ps fun v => K v h) : Sim P W ι (Instr.build t ps'.toArray) w K := by
  unfold o_build at hk
  cases hb : ps.all (fun p => boxV p.2) with
  | false => rw [hb, cond_false] at hk; exact hk.elim
  | true =>
    rw [hb, cond_true] at hk
    have hp := hp hb
    split at hk
    · rename_i z cs hz hcs
      obtain ⟨hzs, hzi⟩ := zeroOf_spec hz
      have hzr : All2 (CRel ι) z.cells.toList z.cells.toList := (arel_self hzs).cells
      have : ∃ cs', P.built t ps' = some cs' ∧ All2 (CRel ι) cs.toList cs'.toList := by
        unfold Program.built at hcs ⊢
        cases hi : P.info? t with
        | none => rw [hi] at hcs; cases hcs
        | some it =>
          have hz' : it.zero = some z := by rw [hi] at hzi; simpa using hzi
          rw [hi] at hcs
          cases hu : P.underlying t with
          | none => rw [hu] at hcs; cases hcs
          | some d =>
            rw [hu] at hcs
            cases d <;> simp only [hz'] at hcs ⊢ <;> try (cases hcs; done)
            · rename_i n e
              cases he : P.info? e with
              | none => rw [he] at hcs; cases hcs
              | some ie => rw [he] at hcs; exact fill_rel _ ps ps' _ _ _ hp hzr hcs
            · rename_i fs
              cases hm : fs.toList.mapM (fun f => (P.info? f.type).map fun i => (f.offset, i.size)) with
              | none => rw [hm] at hcs; cases hcs
              | some pl => rw [hm] at hcs; exact fill_rel _ ps ps' _ _ _ hp hzr hcs
      obtain ⟨cs', h1, h2⟩ := this
      exact Sim.quiet hr (run_build w t ps'.toArray cs' h1) (.a (.agg h2)) hk
    · exact hk.elim

theorem all2_zero {z : Value} (hz : selfA z = true) (n : Nat) : All2 (CRel ι) ((Array.range n).map (z.cells[· % z.cells.size]!)).toList ((Array.range n).map (z.cells[· % z.cells.size]!)).toList := by
  have hzr : All2 (CRel ι) z.cells.toList z.cells.toList := (arel_self hz).cells
  refine All2.refl_of fun a ha => ?_
  simp only [Array.toList_map, List.mem_map] at ha
  obtain ⟨i, _, rfl⟩ := ha
  by_cases h0 : z.cells.size = 0
  · have : z.cells = #[] := Array.eq_empty_of_size_eq_zero h0
    rw [this]; exact .s (.bool _)
  · have hlt : i % z.cells.size < z.cells.size := Nat.mod_lt _ (by omega)
    rw [getElem!_pos z.cells _ hlt]
    obtain ⟨b, hb, hr⟩ := hzr.get (i := i % z.cells.size) (a := z.cells[i % z.cells.size]) (by simp [hlt])
    have : b = z.cells[i % z.cells.size] := by simp [hlt] at hb; exact hb.symm
    rw [this] at hr; exact hr

theorem sim_buildSlice {t e : TypeId} {len : Nat} {ps ps' : List (Nat × Value)} {cs : List Value} {K : Value → H → Prop} (hr : HRel P W ι h w) (hp : ps.all (fun p => boxV p.2) = true → All2 (fun a b => a.1 = b.1 ∧ ARel ι a.2 b.2) ps ps')
    (hl : litCells P t len ps = some (cs, e)) (hk : o_new cs e .exact h fun b h => K (.slice (some ⟨b, 0, none⟩) len len) h) : Sim P W ι (Instr.buildSlice t len ps'.toArray) w K := by
  unfold litCells at hl
  split at hl
  · rename_i e0 hu
    split at hl
    · rename_i i z hi hz
      obtain ⟨hzs, hzi⟩ := zeroOf_spec hz
      have hz' : i.zero = some z := by rw [hi] at hzi; simpa using hzi
      cases hb : (ps.all (fun p => boxV p.2) && Nat.ble (len * i.size) 16777216) with
      | false => rw [hb, cond_false] at hl; cases hl
      | true =>
        rw [hb, cond_true] at hl
        simp only [Bool.and_eq_true] at hb
        have hsmall : len * i.size ≤ 2 ^ 24 := by have := Nat.le_of_ble_eq_true hb.2; omega
        have hp := hp hb.1
        cases h0 : Nat.beq (len * i.size) 0 with
        | true =>
          rw [h0, cond_true] at hl
          have h0' : len * i.size = 0 := Nat.eq_of_beq_eq_true h0
          cases hps : ps.isEmpty with
          | false => rw [hps, cond_false] at hl; cases hl
          | true =>
            rw [hps, cond_true] at hl
            cases hl
            have hpe : ps = [] := List.isEmpty_iff.1 hps
            subst hpe
            cases hp
            refine sim_newRow (cs' := []) (f := fun a => .slice (some a) len len) (g := fun b => .slice (some ⟨b, 0, none⟩) len len) hr (by simp) .nil ?_ (fun b ι' _ hb => by simpa using vrel_slice_new (len := len) hb) hk
            simp [Instr.buildSlice, run_und hu, run_size hi, h0', Instr.fill, newRow, show Array.range 0 = #[] from rfl]
        | false =>
          rw [h0, cond_false] at hl
          have h0' : ¬ len * i.size = 0 := fun he => by rw [he] at h0; cases h0
          split at hl
          · rename_i r hf
            cases hl
            obtain ⟨r', h1, h2⟩ := fill_rel _ ps ps' _ _ _ hp (all2_zero hzs _) hf
            refine sim_newRow (cs' := r'.toList) (f := fun a => .slice (some a) len len) (g := fun b => .slice (some ⟨b, 0, none⟩) len len) hr (by simp) h2 ?_ (fun b ι' _ hb => by simpa using vrel_slice_new (len := len) hb) hk
            have hz1 : ¬ len * i.size > 2 ^ 24 := by omega
            simp only [Instr.buildSlice, Sem.run_bind, run_und hu, run_size hi, Result.andThen_ok, hz1, if_false, h0', run_zero hz, Sem.run_pure]
            simp [h1, newRow]
          · cases hl
    · cases hl
  · cases hl

theorem get_zerosL (z : List Value) : ∀ (n i : Nat), (zerosL z n)[i]? = if i < n * z.length then z[i % z.length]? else none := by
  intro n
  induction n with
  | zero => intro i; simp [zerosL]
  | succ n ih =>
    intro i
    simp only [zerosL, List.getElem?_append, ih]
    by_cases hi : i < z.length
    · rw [if_pos hi, if_pos (by rw [Nat.succ_mul]; omega), Nat.mod_eq_of_lt hi]
    · rw [if_neg hi]
      have e2 : i % z.length = (i - z.length) % z.length := Nat.mod_eq_sub_mod (by omega)
      rw [e2]
      have e3 : (n + 1) * z.length = n * z.length + z.length := Nat.succ_mul _ _
      by_cases hj : i - z.length < n * z.length
      · rw [if_pos hj, if_pos (by omega)]
      · rw [if_neg hj, if_neg (by omega)]
theorem zerosL_eq (z : Array Value) (hz : 0 < z.size) (n : Nat) : zerosL z.toList n = ((Array.range (n * z.size)).map (z[· % z.size]!)).toList := by
  apply List.ext_getElem?
  intro i
  rw [get_zerosL _]
  simp only [Array.length_toList, Array.toList_map, List.getElem?_map, Array.toList_range]
  by_cases hi : i < n * z.size
  · have hlt : i % z.size < z.size := Nat.mod_lt _ hz
    rw [if_pos hi, List.getElem?_range hi]
    simp [hlt]
  · rw [if_neg hi, List.getElem?_eq_none (by simpa using hi)]; rfl

theorem sim_makeSlice {t e : TypeId} {i : TypeInfo} {z : Value} {l c cl cc : Value} {K : Value → H → Prop} (hu : P.underlying t = some (.slice e)) (hi : P.info? e = some i) (hz : zeroOf P e = some z) (hr : HRel P W ι h w) (hl : VRel ι l cl) (hc : VRel ι c cc) (hk : o_makeSlice z.cells.toList i.size i.bytes e l c h K) : Sim P W ι (Instr.makeSlice t cl cc) w K := by
  unfold o_makeSlice at hk
  split at hk
  · rename_i kl l kc c
    obtain rfl := hl.int
    obtain rfl := hc.int
    · obtain ⟨hsz, h0, hlc, hb, h63, hpos, hk⟩ := hk
      simp only [Array.length_toList] at hsz
      have hwl : IntKind.i64.wrap l = l := IntWalk.i64_in l (by omega)
      have hwc : IntKind.i64.wrap c = c := IntWalk.i64_in c (by omega)
      have hzl : ¬ (c < 0 ∨ (i.bytes : Int) * c > 2 ^ 48) := by omega
      have hcs : All2 (CRel ι) (zerosL z.cells.toList c.toNat) (zerosL z.cells.toList c.toNat) := by
        rw [zerosL_eq z.cells (by omega)]
        exact all2_zero (zeroOf_spec hz).1 _
      refine sim_newRow (cs' := zerosL z.cells.toList c.toNat) (f := fun a => .slice (some a) l.toNat c.toNat) (g := fun b => .slice (some ⟨b, 0, none⟩) l.toNat c.toNat) hr (by simp) hcs ?_ (fun b ι' _ hb => ?_) hk
      · rw [zerosL_eq z.cells (by omega)]
        have hbad : ((decide (c < 0) || decide ((i.bytes : Int) * c > 2 ^ 48)) || decide (l < 0) || decide (l > c)) = false := by
          simp only [Bool.or_eq_false_iff, decide_eq_false_iff_not]
          refine ⟨⟨⟨by omega, by omega⟩, by omega⟩, by omega⟩
        simp only [Instr.makeSlice, Sem.run_bind, run_und hu, Result.andThen_ok, asInt, asIntOf, Sem.run_pure, run_info hi, hwl, hwc, hbad, Bool.false_eq_true, if_false, run_askRoom, run_size hi, hsz]
        by_cases hn : c.toNat * i.size = 0
        · simp [hn, newRow, show Array.range 0 = #[] from rfl]
        · have hn' : ¬ c.toNat * z.cells.size = 0 := by rw [hsz]; exact hn
          rw [← hsz]
          simp [hn', run_zero hz, newRow]
          congr 2
          apply Array.ext'
          simp
      · have := SRel.slice (o := 0) (n := l.toNat) (c := c.toNat) hb
        exact .a (.c (.s this))
  · exact hk.elim
end
end Go.Proofs.YtbmfblmebhobiaaGreat.AM

/-
  The operations in the abstract memory tell what the model's operations do: stretches, append, copy, conversions.
-/
set_option linter.unusedSimpArgs false
set_option linter.unusedVariables false
namespace Go.Proofs.YtbmfblmebhobiaaGreat.AM
open Go.RowKit
section
variable {P : Program} {W : World} {ι : Env} {h : H} {w : World}

/-! ### Stretches -/
abbrev loIs (lo : Option Value) (l : Nat) : Prop := match lo with | some (.int _ i) => i = (l : Int) | none => l = 0 | _ => False
abbrev hiIs (hi : Option Value) (n u : Nat) : Prop := match hi with | some (.int _ i) => i = (u : Int) | none => u = n | _ => False
theorem loIs_spec {lo : Option Value} {l : Nat} (hl : loIs lo l) : (lo = none ∧ l = 0) ∨ ∃ k, lo = some (.int k l) := by
  unfold loIs at hl
  split at hl
  · subst hl; exact .inr ⟨_, rfl⟩
  · exact .inl ⟨rfl, hl⟩
  · exact hl.elim
theorem hiIs_spec {hi : Option Value} {n u : Nat} (hl : hiIs hi n u) : (hi = none ∧ u = n) ∨ ∃ k, hi = some (.int k u) := by
  unfold hiIs at hl
  split at hl
  · subst hl; exact .inr ⟨_, rfl⟩
  · exact .inl ⟨rfl, hl⟩
  · exact hl.elim
theorem run_bound (k : IntKind) {l y : Nat} (h : l ≤ y) (code : BoundsCode) (w : World) : (Instr.sliceBound (.int k l) y code).run P w = .ok l w := by
  have : (0 : Int) ≤ l ∧ (l : Int) ≤ y := by omega
  simp [Instr.sliceBound, asIntOf, this.2]
theorem run_bounds {lo hi : Option Value} {n c l u : Nat} (isS : Bool) (hl : loIs lo l) (hh : hiIs hi n u) (h1 : l ≤ u) (h2 : u ≤ c) (w : World) :
    (Instr.sliceBounds isS n c lo hi none).run P w = .ok (l, u, c) w := by
  rcases loIs_spec hl with ⟨rfl, rfl⟩ | ⟨k, rfl⟩ <;> rcases hiIs_spec hh with ⟨rfl, rfl⟩ | ⟨k', rfl⟩ <;>
    simp [Instr.sliceBounds, run_bound _ h1, run_bound _ h2]
theorem orel_opt {lo clo : Option Value} (h : (lo = none ∧ clo = none) ∨ ∃ v cv, lo = some v ∧ clo = some cv ∧ VRel ι v cv) {l : Nat} (hl : loIs lo l) : loIs clo l := by
  rcases h with ⟨rfl, rfl⟩ | ⟨v, cv, rfl, rfl, hv⟩
  · exact hl
  · rcases loIs_spec hl with ⟨e, _⟩ | ⟨k, e⟩
    · cases e
    · cases e; obtain rfl := hv.int; exact hl
theorem orel_hi {lo clo : Option Value} (h : (lo = none ∧ clo = none) ∨ ∃ v cv, lo = some v ∧ clo = some cv ∧ VRel ι v cv) {n l : Nat} (hl : hiIs lo n l) : hiIs clo n l := by
  rcases h with ⟨rfl, rfl⟩ | ⟨v, cv, rfl, rfl, hv⟩
  · exact hl
  · rcases hiIs_spec hl with ⟨e, _⟩ | ⟨k, e⟩
    · cases e
    · cases e; obtain rfl := hv.int; exact hl
abbrev ORelOpt (ι : Env) (lo clo : Option Value) : Prop := (lo = none ∧ clo = none) ∨ ∃ v cv, lo = some v ∧ clo = some cv ∧ VRel ι v cv

theorem run_bounds3 {lo hi : Option Value} {k : IntKind} {n c : Nat} (hl : match lo with | some (.int _ i) => i = 0 | none => True | _ => False) (hh : match hi with | some (.int _ i) => i = 0 | _ => False) (w : World) :
    (Instr.sliceBounds true n c lo hi (some (.int k 0))).run P w = .ok (0, 0, 0) w := by
  have hl' : lo = none ∨ ∃ k, lo = some (.int k 0) := by
    split at hl
    · subst hl; exact .inr ⟨_, rfl⟩
    · exact .inl rfl
    · exact hl.elim
  have hh' : ∃ k, hi = some (.int k 0) := by
    split at hh
    · subst hh; exact ⟨_, rfl⟩
    · exact hh.elim
  obtain ⟨k', rfl⟩ := hh'
  have hb : ∀ (k : IntKind) (y : Nat) code, (Instr.sliceBound (.int k 0) y code).run P w = .ok 0 w := fun k y code => run_bound k (Nat.zero_le y) code w
  rcases hl' with rfl | ⟨k, rfl⟩ <;> simp [Instr.sliceBounds, hb]

theorem sim_slice {t e : TypeId} {inf : TypeInfo} {x cx : Value} {lo hi mx clo chi cmx : Option Value} {K : Value → H → Prop} (hu : P.underlying t = some (.slice e)) (hi' : P.info? e = some inf) (hr : HRel P W ι h w) (hx : VRel ι x cx)
    (hlo : ORelOpt ι lo clo) (hhi : ORelOpt ι hi chi) (hmx : ORelOpt ι mx cmx)
    (hk : o_slice inf.size x lo hi mx fun v => K v h) : Sim P W ι (Instr.sliceAt t cx clo chi cmx) w K := by
  have hsl : ∀ (a : Option Addr) (n c l u m : Nat), (Instr.sliceBounds true n c clo chi cmx).run P w = .ok (l, u, m) w →
      (Instr.sliceAt t (.slice a n c) clo chi cmx).run P w = .ok (.slice (if m = l then a else a.map (·.add (l * inf.size))) (u - l) (m - l)) w := by
    intro a n c l u m hb
    simp [Instr.sliceAt, Instr.slice, run_und hu, hb, run_size hi']
  have hmxN : ∀ {m}, mx = m → m = none → cmx = none := by
    rintro m rfl rfl
    rcases hmx with ⟨_, h⟩ | ⟨v, cv, h, _⟩
    · exact h
    · cases h
  unfold o_slice at hk
  split at hk
  · rename_i b o n c
    obtain rfl : cmx = none := hmxN rfl rfl
    obtain ⟨l, u, hl, hh, h1, h2, hk⟩ := hk
    have hl' := orel_opt hlo (l := l) hl
    have hh' := orel_hi hhi (n := n) (l := u) hh
    rcases hx.slice with ⟨lc, hlc, rfl⟩ | ⟨rfl, rfl, rfl, rfl, a, rfl⟩ | ⟨rfl, rfl, rfl, rfl, a, c', rfl⟩
    · have hb := run_bounds (P := P) true hl' hh' h1 (show u ≤ c + lc.k by omega) w
      have hs := hsl (some ⟨lc.b, lc.o + o, none⟩) n (c + lc.k) l u (c + lc.k) hb
      split at hk
      · subst_vars
        refine Sim.quiet hr hs ?_ hk
        have := SRel.slice (ι := ι) (o := o) (n := u) (c := c) hlc
        have e1 : (if c + lc.k = 0 then some (⟨lc.b, lc.o + o, none⟩ : Addr) else Option.map (fun x : Addr => x.add (0 * inf.size)) (some ⟨lc.b, lc.o + o, none⟩)) = some ⟨lc.b, lc.o + o, none⟩ := by
          split
          · rfl
          · simp [add_none]
        rw [e1]
        simpa using VRel.a (.c (.s this))
      · split at hk
        · refine Sim.quiet hr hs ?_ hk
          rw [if_neg (by omega)]
          have := SRel.slice (ι := ι) (o := o + l * inf.size) (n := u - l) (c := c - l) hlc
          have e2 : c + lc.k - l = c - l + lc.k := by omega
          rw [← Nat.add_assoc] at this
          simp only [Option.map_some, add_none, e2]
          exact .a (.c (.s this))
        · obtain rfl : l = c := by omega
          obtain rfl : u = l := by omega
          refine Sim.quiet hr hs ?_ hk
          have : ∀ a : Option Addr, a.isSome = true → ∀ c, VRel ι (.slice (some ⟨1, 0, none⟩) 0 0) (.slice a 0 c) := by
            intro a ha c
            obtain ⟨a, rfl⟩ := Option.isSome_iff_exists.1 ha
            exact .a (.c (.s (.empty1 a c)))
          rw [Nat.sub_self]
          exact this _ (by split <;> rfl) _
    · have h0 : l = 0 ∧ u = 0 := by omega
      obtain ⟨rfl, rfl⟩ := h0
      rw [if_pos rfl] at hk
      have hb := run_bounds (P := P) true hl' hh' h1 (Nat.le_refl 0) w
      refine Sim.quiet hr (hsl (some a) 0 0 0 0 0 hb) ?_ hk
      simp only [if_true]
      exact .a (.c (.s (.empty0 a)))
    · have h0 : l = 0 ∧ u = 0 := by omega
      obtain ⟨rfl, rfl⟩ := h0
      rw [if_pos rfl] at hk
      have hb := run_bounds (P := P) true hl' hh' h1 (Nat.zero_le c') w
      refine Sim.quiet hr (hsl (some a) 0 c' 0 0 c' hb) ?_ hk
      have e1 : (if c' = 0 then some a else Option.map (fun x : Addr => x.add (0 * inf.size)) (some a)) = some a := by
        split
        · rfl
        · simp [Addr.add]
      rw [e1]
      exact .a (.c (.s (.empty1 a c')))
  · rename_i b o n c
    obtain ⟨hl, hh, hk⟩ := hk
    have hmx' : ∃ k, cmx = some (.int k 0) := by
      rcases hmx with ⟨h, _⟩ | ⟨v, cv, h, h', hv⟩
      · cases h
      · cases h; obtain rfl := hv.int; exact ⟨_, h'⟩
    obtain ⟨k, rfl⟩ := hmx'
    have hl' : (match clo with | some (.int _ i) => i = 0 | none => True | _ => False) := by
      rcases hlo with ⟨rfl, rfl⟩ | ⟨v, cv, rfl, rfl, hv⟩
      · trivial
      · cases v <;> simp at hl
        obtain rfl := hv.int; exact hl
    have hh' : (match chi with | some (.int _ i) => i = 0 | _ => False) := by
      rcases hhi with ⟨rfl, rfl⟩ | ⟨v, cv, rfl, rfl, hv⟩
      · exact hh
      · cases v <;> simp at hh
        obtain rfl := hv.int; exact hh
    have he : ∀ (a : Addr) (n c : Nat), Sim P W ι (Instr.sliceAt t (.slice (some a) n c) clo chi (some (.int k 0))) w K := by
      intro a n c
      refine Sim.quiet hr (hsl (some a) n c 0 0 0 (run_bounds3 hl' hh' w)) ?_ hk
      simp only [if_true]
      exact .a (.c (.s (.empty0 a)))
    rcases hx.slice with ⟨lc, hlc, rfl⟩ | ⟨rfl, rfl, rfl, rfl, a, rfl⟩ | ⟨rfl, rfl, rfl, rfl, a, c', rfl⟩ <;> exact he _ _ _
  · obtain rfl : cmx = none := hmxN rfl rfl
    obtain ⟨hl, hh, hk⟩ := hk
    obtain rfl : cx = .slice none 0 0 := vrel_eq rfl hx
    have hl1 : loIs lo 0 := by
      unfold loIs
      split <;> simp_all
    have hh1 : hiIs hi 0 0 := by
      unfold hiIs
      split <;> simp_all
    have hb := run_bounds (P := P) true (orel_opt hlo hl1) (orel_hi hhi hh1) (Nat.le_refl 0) (Nat.le_refl 0) w
    exact Sim.quiet hr (hsl none 0 0 0 0 0 hb) (.a (.c (.s .sliceNil))) hk
  · obtain ⟨hl, hh, hk⟩ := hk
    obtain rfl : cx = .slice none 0 0 := vrel_eq rfl hx
    have hmx' : ∃ k, cmx = some (.int k 0) := by
      rcases hmx with ⟨h, _⟩ | ⟨v, cv, h, h', hv⟩
      · cases h
      · cases h; obtain rfl := hv.int; exact ⟨_, h'⟩
    obtain ⟨k, rfl⟩ := hmx'
    have hl' : (match clo with | some (.int _ i) => i = 0 | none => True | _ => False) := by
      rcases hlo with ⟨rfl, rfl⟩ | ⟨v, cv, rfl, rfl, hv⟩
      · trivial
      · cases v <;> simp at hl
        obtain rfl := hv.int; exact hl
    have hh' : (match chi with | some (.int _ i) => i = 0 | _ => False) := by
      rcases hhi with ⟨rfl, rfl⟩ | ⟨v, cv, rfl, rfl, hv⟩
      · exact hh
      · cases v <;> simp at hh
        obtain rfl := hv.int; exact hh
    exact Sim.quiet hr (hsl none 0 0 0 0 0 (run_bounds3 hl' hh' w)) (.a (.c (.s .sliceNil))) hk
  · exact hk.elim
end
end Go.Proofs.YtbmfblmebhobiaaGreat.AM

/-
  The operations in the abstract memory tell what the model's operations do: append, copy, conversions, lengths.
-/
set_option linter.unusedSimpArgs false
set_option linter.unusedVariables false
namespace Go.Proofs.YtbmfblmebhobiaaGreat.AM
open Go.RowKit
section
variable {P : Program} {W : World} {ι : Env} {h : H} {w : World}

theorem sim_sliceStr {t : TypeId} {x cx : Value} {lo hi clo chi : Option Value} {K : Value → H → Prop} (hu : P.underlying t = some .string) (hr : HRel P W ι h w) (hx : VRel ι x cx)
    (hlo : ORelOpt ι lo clo) (hhi : ORelOpt ι hi chi) (hk : o_sliceStr x lo hi fun v => K v h) : Sim P W ι (Instr.sliceAt t cx clo chi none) w K := by
  unfold o_sliceStr at hk
  split at hk
  · rename_i s
    obtain rfl := hx.string
    obtain ⟨l, u, hl, hh, h1, h2, hk⟩ := hk
    have hb := run_bounds (P := P) false (orel_opt hlo (l := l) hl) (orel_hi hhi (n := s.size) (l := u) hh) h1 h2 w
    exact Sim.quiet (cv := .string (s.extract l u)) hr (by simp [Instr.sliceAt, Instr.slice, run_und hu, hb]) (vrel_self rfl) hk
  · exact hk.elim
theorem sim_sliceArr {t e : TypeId} {inf : TypeInfo} {n : Nat} {x cx : Value} {lo hi clo chi : Option Value} {K : Value → H → Prop} (hu : P.underlying t = some (.array n e)) (hi' : P.info? e = some inf) (hr : HRel P W ι h w) (hx : VRel ι x cx)
    (hlo : ORelOpt ι lo clo) (hhi : ORelOpt ι hi chi) (hk : o_sliceArr n inf.size x lo hi h fun v => K v h) : Sim P W ι (Instr.sliceAt t cx clo chi none) w K := by
  unfold o_sliceArr at hk
  split at hk
  · rename_i b o
    split at hk
    · rename_i cs E m hbo
      obtain ⟨hmo, l, u, hl, hh, h1, h2, hk⟩ := hk
      obtain ⟨lc, hlc, rfl⟩ := hx.ptr
      have hk0 : lc.k = 0 := by
        obtain ⟨_, _, _, _, _, _, _, _, h5, _⟩ := hr.obj' hbo hlc
        exact h5 hmo
      have hb := run_bounds (P := P) false (orel_opt hlo (l := l) hl) (orel_hi hhi (n := n) (l := u) hh) h1 h2 w
      have hs : (Instr.sliceAt t (.pointer (some ⟨lc.b, lc.o + o, none⟩)) clo chi none).run P w = .ok (.slice (some (if n = l then ⟨lc.b, lc.o + o, none⟩ else (⟨lc.b, lc.o + o, none⟩ : Addr).add (l * inf.size))) (u - l) (n - l)) w := by
        simp [Instr.sliceAt, run_und hu, Instr.sureAddr, hb, run_size hi']
      split at hk
      · refine Sim.quiet hr hs ?_ hk
        rw [if_neg (by omega)]
        have := SRel.slice (ι := ι) (o := o + l * inf.size) (n := u - l) (c := n - l) hlc
        rw [← Nat.add_assoc, hk0, Nat.add_zero] at this
        rw [add_none]
        exact .a (.c (.s this))
      · obtain rfl : l = n := by omega
        obtain rfl : u = l := by omega
        refine Sim.quiet hr hs ?_ hk
        rw [Nat.sub_self]
        exact .a (.c (.s (.empty1 _ _)))
    · exact hk.elim
  · exact hk.elim

/-! ### What is appended, or copied -/
theorem src_len {x cx : Value} {n : Nat} (hx : VRel ι x cx) (hn : srcLen x = some n) (w : World) : (Builtin.lenOf cx).run P w = .ok n w := by
  cases x <;> simp [srcLen] at hn
  · obtain rfl := hx.string; simp [Builtin.lenOf, hn]
  · obtain ⟨a', n', c', rfl, rfl, _⟩ := hx.sliceAny; simp [Builtin.lenOf, hn]
theorem bytes_extract_zero (s : ByteArray) : (s.extract 0 0).data = #[] := by
  apply Array.eq_empty_of_size_eq_zero
  show (s.extract 0 0).size = 0
  simp
theorem src_cells {x cx : Value} {size m : Nat} {new : List Value} (hr : HRel P W ι h w) (hx : VRel ι x cx) (hc : srcCells size h x m = some new) :
    ∃ new', (Builtin.firstCells size m cx).run P w = .ok (List.toArray new') w ∧ All2 (CRel ι) new new' ∧ (m = 0 → new = []) := by
  unfold srcCells at hc
  split at hc
  · cases hc
    obtain rfl : cx = .slice none 0 0 := vrel_eq rfl hx
    exact ⟨[], by simp [Builtin.firstCells], .nil, fun _ => rfl⟩
  · rename_i b o _ _
    split at hc
    · cases hc
      subst_vars
      obtain ⟨a', n', c', rfl, _, ha⟩ := hx.sliceAny
      obtain ⟨a, rfl⟩ : ∃ a, a' = some a := by cases a' <;> simp_all
      exact ⟨[], by simp [Builtin.firstCells, loadCells, loadCellsFrom], .nil, fun _ => rfl⟩
    · rename_i hm
      rcases hx.slice with ⟨lc, hlc, rfl⟩ | ⟨_, _, rfl, _⟩ | ⟨_, _, rfl, _⟩
      · obtain ⟨new', h1, h2, h3⟩ := read_cells hr hc hlc
        refine ⟨new', ?_, h1, fun h0 => absurd h0 hm⟩
        have := run_loadCells_list (P := P) w ⟨lc.b, lc.o + o, none⟩ new' h3
        rw [← h1.length, h2] at this
        simp [Builtin.firstCells, this]
      · simp only [cellsAt] at hc
        split at hc
        · rename_i hb; obtain ⟨l, hl, _⟩ := hr.obj _ _ hb; rw [hr.z0] at hl; cases hl
        · cases hc
      · simp only [cellsAt] at hc
        split at hc
        · rename_i hb; obtain ⟨l, hl, _⟩ := hr.obj _ _ hb; rw [hr.z1] at hl; cases hl
        · cases hc
  · rename_i s _
    cases hc
    obtain rfl := hx.string
    refine ⟨_, ?_, All2.refl_of (fun a ha => ?_), ?_⟩
    · simp only [Builtin.firstCells, Sem.run_pure]
      congr 1
      apply Array.ext'
      simp [List.map_take]
    · simp only [List.mem_map] at ha
      obtain ⟨b, _, rfl⟩ := ha
      exact .s (.int _ _)
    · rintro rfl; rw [bytes_extract_zero]; rfl
  · cases hc

theorem size_zeroCells' (z : Array Value) (n : Nat) : (Builtin.zeroCells z n).size = n * z.size := by simp [Builtin.zeroCells]

/-- append, where a new array is made. -/
theorem run_append_new {t u ty e : TypeId} {i : TypeInfo} {z : Value} (hu : P.underlying t = some (.slice e)) (hux : ∃ d, P.underlying u = some d ∧ ∀ k, d ≠ .int k) (hi : P.info? e = some i) (hz : zeroOf P e = some z)
    {base : Option Addr} {len cap n : Nat} {cx : Value} {old new : List Value} (hn : ∀ w, (Builtin.lenOf cx).run P w = .ok n w)
    (hold : (Builtin.firstCells i.size len (.slice base len cap)).run P { w with drawn := w.drawn + 1 } = .ok old.toArray { w with drawn := w.drawn + 1 })
    (hnew : (Builtin.firstCells i.size n cx).run P { w with drawn := w.drawn + 1 } = .ok new.toArray { w with drawn := w.drawn + 1 })
    (hg : cap < len + n) (hb : (len + n) * i.bytes ≤ 140737488355328) (h63 : len + n < 9223372036854775808) :
    ∃ k rest, rest.length = k * z.cells.size ∧ (Builtin.append_ #[t, u] ty #[.slice base len cap, cx]).run P w =
      .ok (.slice (some ⟨w.heap.size, 0, none⟩) (len + n) (len + n + k)) (({ w with drawn := w.drawn + 1 } : World).alloc (.cells (old ++ new ++ rest).toArray e)) := by
  obtain ⟨d, hud, hd⟩ := hux
  have hzeros : (match d with | .int _ => true | _ => false) = false := by cases d <;> first | rfl | exact absurd rfl (hd _)
  have hfit := growslice_fits hg hb
  refine ⟨(Question.appendCap (len + n) cap e).cut (w.tape w.drawn (.appendCap (len + n) cap e)) - (len + n), (Builtin.zeroCells z.cells ((Question.appendCap (len + n) cap e).cut (w.tape w.drawn (.appendCap (len + n) cap e)) - (len + n))).toList, by simp [size_zeroCells'], ?_⟩
  have hge : len + n ≤ (Question.appendCap (len + n) cap e).cut (w.tape w.drawn (.appendCap (len + n) cap e)) := by simp [Question.cut]
  have h1 : ¬ (len + n ≤ cap) := by omega
  have h2 : ¬ (((len + n : Nat) : Int) > IntKind.i64.max ∧ i.bytes = 0) := by
    intro ⟨h, _⟩
    have : IntKind.i64.max = 9223372036854775807 := by decide
    omega
  have h3 : ¬ (Builtin.nextslicecap (len + n) cap * i.bytes > 2 ^ 48) := by omega
  unfold Builtin.append_
  simp only [List.getElem?_toArray, List.getElem?_cons_zero, List.getElem?_cons_succ, Sem.run_bind, run_und hu, Result.andThen_ok, run_size hi, run_und hud, Sem.run_pure]
  rw [if_neg (by simp)]
  simp only [Sem.run_bind, hn, Result.andThen_ok, if_neg h1, run_info hi, Bool.false_eq_true, false_or, if_neg h2, if_neg h3, run_choose, Question.forced, if_false, run_askRoom, hold, Bool.not_false, if_true, hnew, run_zero hz, newRow, run_newObj, Sem.run_pure]
  have e1 : len + n + ((Question.appendCap (len + n) cap e).cut (w.tape w.drawn (.appendCap (len + n) cap e)) - (len + n)) = (Question.appendCap (len + n) cap e).cut (w.tape w.drawn (.appendCap (len + n) cap e)) := by omega
  rw [e1]
  congr 2
  apply Array.ext'
  simp

/-- append, where there is room. -/
theorem run_append_fits {t u ty e : TypeId} {i : TypeInfo} (hu : P.underlying t = some (.slice e)) (hux : ∃ d, P.underlying u = some d ∧ ∀ k, d ≠ .int k) (hi : P.info? e = some i)
    {base : Option Addr} {len cap n : Nat} {cx : Value} {new : List Value} {w' : World} (hn : (Builtin.lenOf cx).run P w = .ok n w)
    (hnew : (Builtin.firstCells i.size n cx).run P w = .ok new.toArray w) (hg : len + n ≤ cap)
    (hst : match base with | some a => (storeCells (a.add (len * i.size)) new).run P w = .ok () w' | none => w' = w) :
    (Builtin.append_ #[t, u] ty #[.slice base len cap, cx]).run P w = .ok (.slice base (len + n) cap) w' := by
  obtain ⟨d, hud, hd⟩ := hux
  have hzeros : (match d with | .int _ => true | _ => false) = false := by cases d <;> first | rfl | exact absurd rfl (hd _)
  unfold Builtin.append_
  simp only [List.getElem?_toArray, List.getElem?_cons_zero, List.getElem?_cons_succ, Sem.run_bind, run_und hu, Result.andThen_ok, run_size hi, run_und hud, Sem.run_pure]
  rw [if_neg (by simp)]
  simp only [Sem.run_bind, hn, Result.andThen_ok, if_pos hg, Bool.not_false, if_true, hnew]
  cases base with
  | none => simp only at hst; subst hst; rfl
  | some a => simp only [Sem.run_bind, hst, Result.andThen_ok, Sem.run_pure]

theorem upd_del (h : H) (b : Nat) {b' : Nat} (o : AObj) : upd (del h b) b' o = fun c => if c = b' then some o else if c = b then none else h c := rfl

set_option maxHeartbeats 1000000 in
theorem sim_append {t u ty e : TypeId} {i : TypeInfo} {z s x cs' cx : Value} {K : Value → H → Prop} (hu : P.underlying t = some (.slice e)) (hux : ∃ d, P.underlying u = some d ∧ ∀ k, d ≠ .int k) (hi : P.info? e = some i) (hz : zeroOf P e = some z)
    (hzs : z.cells.size = i.size) (hr : HRel P W ι h w) (hs : VRel ι s cs') (hx : VRel ι x cx) (hk : o_append e i.size i.bytes s x h K) :
    Sim P W ι (Builtin.append_ #[t, u] ty #[cs', cx]) w K := by
  have hsz : szOf P e = i.size := by simp [szOf, hi]
  unfold o_append at hk
  split at hk
  · rename_i base len cap n hsl
    obtain ⟨cbase, clen, ccap, rfl, rfl, hbn⟩ := hs.sliceAny
    split at hk
    · exact hk.elim
    · rename_i new hnew
      obtain ⟨new', hn1, hn2, hn3⟩ := src_cells hr hx hnew
      -- a new array
      have grow : ∀ (ccap : Nat) (old old' : List Value), All2 (CRel ι) old old' → (Builtin.firstCells i.size clen (.slice cbase clen ccap)).run P { w with drawn := w.drawn + 1 } = .ok old'.toArray { w with drawn := w.drawn + 1 } →
          ccap < clen + n → (clen + n) * i.bytes ≤ 140737488355328 → clen + n < 9223372036854775808 → ∀ h1 : H, (∀ b o, h1 b = some o → h b = some o) →
          (∀ b', 2 ≤ b' → h b' = none → K (.slice (some ⟨b', 0, none⟩) (clen + n) (clen + n)) (upd h1 b' (.cells (old ++ new) e .open))) → Sim P W ι (Builtin.append_ #[t, u] ty #[.slice cbase clen ccap, cx]) w K := by
        intro ccap old old' ho hold hg hb h63 h1 hsub hk
        obtain ⟨new2, hm1, hm2, _⟩ := src_cells (hr.drawn (w.drawn + 1)) hx hnew
        obtain ⟨k, rest, hrest, hrun⟩ := run_append_new (ty := ty) hu hux hi hz (fun w => src_len hx hsl w) hold hm1 hg hb h63
        obtain ⟨b, h2, hb1, hhb⟩ := hr.fresh
        have hrd := (hr.drawn (w.drawn + 1)).drop hsub
        obtain ⟨n0, hn0⟩ := hr.nxt
        refine ⟨_, _, ι.set b ⟨w.heap.size, 0, k⟩, .slice (some ⟨b, 0, none⟩) (clen + n) (clen + n), _, hrun, Env.le_set _ hb1, ?_, ?_, hk b h2 hhb⟩
        · refine hrd.new (b := b) h2 hb1 ?_
          refine orel_new (by simp) hrd.below.size ((ho.append hm2).mono fun _ _ hc => hc.mono (Env.le_set _ hb1)) (by simp) (fun _ => by rw [hrest, hzs, hsz]) ?_
          exact alloc_get_new _ _
        · exact vrel_slice_new (Env.set_same _ _ _)
      split at hk
      · -- within the capacity
        rename_i hfit
        split at hk
        · rename_i b o
          split at hk
          · rename_i hn0
            subst hn0
            have hne := hn3 rfl
            subst hne
            cases hn2
            obtain ⟨a, rfl⟩ : ∃ a, cbase = some a := by cases cbase <;> simp_all
            have hc : clen + 0 ≤ ccap := by
              rcases hs.slice with ⟨l, hl, he⟩ | ⟨rfl, _, _, _, a', he⟩ | ⟨rfl, _, _, _, a', c', he⟩ <;> cases he <;> omega
            have hrun := run_append_fits (ty := ty) (w' := w) hu hux hi (src_len hx hsl w) hn1 hc (base := some a) (by simp [storeCells])
            exact Sim.quiet hr hrun hs hk
          · rename_i hn0
            split at hk
            · rename_i cs E m hb
              obtain ⟨hm, hlen, hnl, hk⟩ := hk
              rcases hs.slice with ⟨l, hl, he⟩ | ⟨_, rfl, _⟩ | ⟨_, rfl, _⟩
              · cases he
                obtain ⟨w', hst, hr'⟩ := put_cells (P := P) hr hb hl hm hn2 (o := o + clen * i.size) (by rw [hnl]; rw [Nat.add_mul] at hlen; omega)
                have hrun := run_append_fits (ty := ty) (w' := w') (cap := cap + l.k) (len := clen) hu hux hi (src_len hx hsl w) hn1 (by omega) (base := some ⟨l.b, l.o + o, none⟩) (by
                  simp only [add_none, Nat.add_assoc]; exact hst)
                refine ⟨_, _, ι, _, _, hrun, Env.le_refl _, hr', ?_, hk⟩
                exact .a (.c (.s (.slice hl)))
              · omega
              · omega
            · exact hk.elim
        · obtain ⟨rfl, hk⟩ := hk
          have hne := hn3 rfl
          subst hne
          cases hn2
          have hcb : cbase = none := by simpa using hbn
          subst hcb
          have hc : clen + 0 ≤ ccap := by
            have hc := hs.cell rfl
            cases hc with | s hc => cases hc; omega
          have hrun := run_append_fits (ty := ty) (w' := w) hu hux hi (src_len hx hsl w) hn1 hc (base := none) rfl
          exact Sim.quiet hr hrun hs hk
        · exact hk.elim
      · rename_i hnf
        obtain ⟨hb, h63, hnl, hn0, hk⟩ := hk
        split at hk
        · -- from nothing
          obtain ⟨rfl, hk⟩ := hk
          have hcb : cbase = none := by simpa using hbn
          subst hcb
          have hc0 : ccap = 0 := by
            have hc := hs.cell rfl
            cases hc with | s hc => cases hc; rfl
          subst hc0
          refine grow 0 [] [] .nil (by simp [Builtin.firstCells]) (by omega) hb h63 h (fun _ _ h => h) ?_
          intro b' h2 hb'
          simpa using hk b' h2 hb'
        · rename_i b o
          split at hk
          · obtain ⟨rfl, hk⟩ := hk
            rename_i hb0
            subst hb0
            have hc0 : ccap = 0 := by
              rcases hs.slice with ⟨l, hl, _⟩ | ⟨_, _, _, _, a', he⟩ | ⟨_, _, h1, _⟩
              · rw [hr.z0] at hl; cases hl
              · cases he; rfl
              · cases h1
            obtain ⟨a, rfl⟩ : ∃ a, cbase = some a := by cases cbase <;> simp_all
            subst hc0
            refine grow 0 [] [] .nil (by simp [Builtin.firstCells, loadCells, loadCellsFrom]) (by omega) hb h63 h (fun _ _ h => h) ?_
            intro b' h2 hb'
            simpa using hk b' h2 hb'
          · rename_i hb0
            split at hk
            · rename_i cs E m hbo
              obtain ⟨hlen, hk⟩ := hk
              rcases hs.slice with ⟨l, hl, he⟩ | ⟨_, _, rfl, _⟩ | ⟨_, _, rfl, _⟩
              · cases he
                obtain ⟨ccs, CE, lo, hi', g1, g2, g3, g4, g5, g6⟩ := hr.obj' hbo hl
                have hca : cellsAt h b o (clen * i.size) = some ((cs.drop o).take (clen * i.size)) := by simp [cellsAt, hbo, hlen]
                have hold : ∃ old', (Builtin.firstCells i.size clen (.slice (some ⟨l.b, l.o + o, none⟩) clen (cap + l.k))).run P { w with drawn := w.drawn + 1 } = .ok (List.toArray old') { w with drawn := w.drawn + 1 } ∧ All2 (CRel ι) ((cs.drop o).take (clen * i.size)) old' := by
                  obtain ⟨old', q1, q2, q3⟩ := read_cells (hr.drawn (w.drawn + 1)) hca hl
                  refine ⟨old', ?_, q1⟩
                  have := run_loadCells_list (P := P) { w with drawn := w.drawn + 1 } ⟨l.b, l.o + o, none⟩ old' q3
                  rw [← q1.length, q2] at this
                  simp only [Builtin.firstCells]
                  exact this
                obtain ⟨old', ho1, ho2⟩ := hold
                split at hk
                · -- spare room behind the block
                  obtain ⟨hE, hend, hpos, hk⟩ := hk
                  subst hE
                  have hsub : ∀ c oc, del h b c = some oc → h c = some oc := fun c oc hc => by
                    unfold del at hc; split at hc
                    · cases hc
                    · exact hc
                  by_cases hroom : clen + n ≤ cap + l.k
                  · obtain ⟨b', h2, hb', hhb⟩ := hr.fresh
                    have hlt : l.b < w.heap.size := hr.inb b l hl
                    obtain ⟨hB, hfz⟩ := g4 (by simp)
                    have hsz' := g6 rfl
                    rw [hsz] at hsz'
                    have hmul : (clen + n) * i.size ≤ (cap + l.k) * i.size := Nat.mul_le_mul_right _ hroom
                    rw [Nat.add_mul, Nat.add_mul] at hmul
                    have hst := run_storeCells_blk P l.b (l.o + o + clen * i.size) CE lo hi' new' 0 ccs w g1 (by rw [← hn2.length, hnl]; omega) (fun j hj hq => hfz j hj ⟨hq.1, by omega⟩) (fun v hv => by
                      obtain ⟨j, hj, hget⟩ := List.mem_iff_getElem.1 hv
                      obtain ⟨v0, _, hv0⟩ := hn2.get' (show new'[j]? = some v by rw [List.getElem?_eq_getElem hj, hget])
                      exact hv0.one)
                    have hnne : new' ≠ [] := by
                      intro he
                      have h0 := hn2.length
                      rw [he] at h0
                      have : n * i.size = 0 := by rw [← hnl, h0]; rfl
                      rcases Nat.mul_eq_zero.1 this with h1 | h1 <;> omega
                    rw [if_neg hnne] at hst
                    have hrun := run_append_fits (ty := ty) (cap := cap + l.k) (len := clen) hu hux hi (src_len hx hsl w) hn1 hroom (base := some ⟨l.b, l.o + o, none⟩) (by
                      simp only [add_none]; exact hst)
                    have hlens : (cs.drop o).length = cs.length - o := by simp
                    refine ⟨_, _, ι.set b' ⟨l.b, l.o + o, cap + l.k - (clen + n)⟩, .slice (some ⟨b', 0, none⟩) (clen + n) (clen + n), _, hrun, Env.le_set _ hb', ?_, ?_, hk b' h2 hhb⟩
                    · refine (hr.drop hsub).put (Env.le_set _ hb') (Env.set_same _ _ _) (fun c hc => Env.set_ne _ _ hc) h2 hB (by rw [setBlk_size]; exact hlt) (by rw [setBlk_size]; exact Nat.le_refl _) (fun c hc _ => setBlk_ne _ _ hc) rfl rfl rfl ?_ ?_ ?_
                      · intro c oc lc hc hoc hlc hro he
                        have hcb : c ≠ b := by rintro rfl; rw [del_same] at hoc; cases hoc
                        rw [del_ne _ hcb] at hoc
                        exact hr.sep c b oc _ lc l hcb hoc hbo hlc hl hro rfl he
                      · intro _ es1 cl1 he1
                        rw [setBlk_same _ _ hlt] at he1; cases he1
                      · have hlnew := hn2.length
                        refine ⟨_, CE, lo, hi', setBlk_same _ _ hlt, ?_, by simp, fun _ => ⟨hB, fun j hj => hfz j (by simpa [length_setL] using hj)⟩, by simp, fun _ => ?_⟩
                        · intro j v hj
                          have hle := Env.le_set (ι := ι) ⟨l.b, l.o + o, cap + l.k - (clen + n)⟩ hb'
                          simp only [List.getElem?_toArray, Nat.add_zero]
                          rw [get_setL _ _ _ _ (by simp; omega)]
                          rw [List.getElem?_append] at hj
                          have htl : ((cs.drop o).take (clen * i.size)).length = clen * i.size := by simp; omega
                          rw [htl] at hj
                          split at hj
                          · rename_i hjl
                            rw [if_neg (by omega)]
                            have hj' : cs[o + j]? = some v := by
                              rw [List.getElem?_take, if_pos hjl, List.getElem?_drop] at hj; exact hj
                            obtain ⟨v', q1, q2⟩ := g2 _ _ hj'
                            exact ⟨v', by rw [← Nat.add_assoc] at q1; simpa using q1, q2.mono hle⟩
                          · rename_i hjl
                            obtain ⟨v', q1, q2⟩ := hn2.get hj
                            have hjn : j - clen * i.size < new'.length := (List.getElem?_eq_some_iff.1 q1).1
                            rw [if_pos (by omega), show l.o + o + j - (l.o + o + clen * i.size) = j - clen * i.size by omega]
                            exact ⟨v', q1, q2.mono hle⟩
                        · simp only [List.length_append, List.length_take, List.length_drop, hnl, hsz, List.size_toArray, length_setL, Array.length_toList]
                          have e1 : (cap + l.k - (clen + n)) * i.size = (cap + l.k) * i.size - (clen + n) * i.size := Nat.sub_mul _ _ _
                          rw [e1, Nat.add_mul, Nat.add_mul]
                          omega
                    · have := SRel.slice (ι := ι.set b' ⟨l.b, l.o + o, cap + l.k - (clen + n)⟩) (o := 0) (n := clen + n) (c := clen + n) (Env.set_same _ _ _)
                      simp only [Nat.add_zero] at this
                      rw [show clen + n + (cap + l.k - (clen + n)) = cap + l.k by omega] at this
                      exact .a (.c (.s this))
                  · exact grow (cap + l.k) _ old' ho2 ho1 (by omega) hb h63 (del h b) hsub hk
                · rename_i hm
                  have hk0 : l.k = 0 := g5 (fun he => hm he)
                  rw [hk0, Nat.add_zero]
                  rw [hk0, Nat.add_zero] at ho1
                  exact grow cap _ old' ho2 ho1 (by omega) hb h63 h (fun _ _ h => h) hk
              · exact absurd rfl hb0
              · obtain ⟨l, hl, _⟩ := hr.obj _ _ hbo
                rw [hr.z1] at hl; cases hl
            · exact hk.elim
        · exact hk.elim
  · exact hk.elim

theorem sim_copy {t u ty e : TypeId} {i : TypeInfo} {d x cd cx : Value} {K : Value → H → Prop} (hu : P.underlying t = some (.slice e)) (hi : P.info? e = some i)
    (hr : HRel P W ι h w) (hd : VRel ι d cd) (hx : VRel ι x cx) (hk : o_copy i.size d x h K) : Sim P W ι (Builtin.copy_ #[t, u] ty #[cd, cx]) w K := by
  unfold o_copy at hk
  split at hk
  · rename_i base len cap n hsl
    obtain ⟨cbase, clen, ccap, rfl, rfl, hbn⟩ := hd.sliceAny
    split at hk
    · exact hk.elim
    · rename_i new hnew
      obtain ⟨new', hn1, hn2, hn3⟩ := src_cells hr hx hnew
      have hrun : ∀ w', (match cbase with | some a => (storeCells a new').run P w = .ok () w' | none => w' = w) → (Builtin.copy_ #[t, u] ty #[.slice cbase clen ccap, cx]).run P w = .ok (goInt (Nat.min n clen)) w' := by
        intro w' hst
        simp only [Builtin.copy_, List.getElem?_toArray, List.getElem?_cons_zero, List.getElem?_cons_succ, Sem.run_bind, run_und hu, Result.andThen_ok, src_len hx hsl w, run_size hi, hn1]
        cases cbase with
        | none => simp only at hst; subst hst; rfl
        | some a => simp only [Sem.run_bind, hst, Result.andThen_ok, Sem.run_pure]
      split at hk
      · rename_i h0
        have hne := hn3 h0
        subst hne
        cases hn2
        refine Sim.quiet hr (hrun w ?_) ?_ hk
        · cases cbase <;> simp [storeCells]
        · rw [h0]; exact vrel_self rfl
      · rename_i h0
        split at hk
        · rename_i b o
          split at hk
          · rename_i cs E m hb
            obtain ⟨hm, hlen, hnl, hk⟩ := hk
            rcases hd.slice with ⟨l, hl, he⟩ | ⟨rfl, _⟩ | ⟨rfl, _⟩
            · cases he
              obtain ⟨w', hst, hr'⟩ := put_cells (P := P) hr hb hl hm hn2 (o := o) (by rw [hnl]; exact hlen)
              exact ⟨_, w', ι, _, _, hrun w' hst, Env.le_refl _, hr', vrel_self rfl, hk⟩
            · simp at h0
            · simp at h0
          · exact hk.elim
        · exact hk.elim
  · exact hk.elim

/-! ### Lengths, conversions -/
theorem sim_lenStr {t ty : TypeId} {x cx : Value} {K : Value → H → Prop} (hu : P.underlying t = some .string) (hr : HRel P W ι h w) (hx : VRel ι x cx) (hk : o_lenStr x fun v => K v h) : Sim P W ι (Builtin.len_ #[t] ty #[cx]) w K := by
  unfold o_lenStr at hk
  split at hk
  · obtain rfl := hx.string
    exact Sim.quiet hr (by simp [Builtin.len_, run_und hu]; rfl) (vrel_self rfl) hk
  · exact hk.elim
theorem sim_lenSl {t ty e : TypeId} {x cx : Value} {K : Value → H → Prop} (hu : P.underlying t = some (.slice e)) (hr : HRel P W ι h w) (hx : VRel ι x cx) (hk : o_lenSl x fun v => K v h) : Sim P W ι (Builtin.len_ #[t] ty #[cx]) w K := by
  unfold o_lenSl at hk
  split at hk
  · obtain ⟨a', n', c', rfl, rfl, _⟩ := hx.sliceAny
    exact Sim.quiet hr (by simp [Builtin.len_, run_und hu]; rfl) (vrel_self rfl) hk
  · exact hk.elim
theorem sim_lenMap {t ty kt e : TypeId} {x cx : Value} {K : Value → H → Prop} (hu : P.underlying t = some (.map kt e)) (hr : HRel P W ι h w) (hx : VRel ι x cx) (hk : o_lenMap x h fun v => K v h) : Sim P W ι (Builtin.len_ #[t] ty #[cx]) w K := by
  unfold o_lenMap at hk
  split at hk
  · obtain rfl := hx.mapNil
    exact Sim.quiet hr (by simp [Builtin.len_, run_und hu]; rfl) (vrel_self rfl) hk
  · rename_i m
    obtain ⟨l, hl, rfl⟩ := hx.map
    split at hk
    · rename_i kk es c hm
      obtain ⟨_, _, ces, h1, h2, _⟩ := hr.obj' hm hl
      have hg : (getObj l.b).run P w = .ok (.map ces c) w := by simp [getObj, Sem.run, h1]
      have hlen : ces.size = es.length := by simpa using h2.length.symm
      exact Sim.quiet hr (by simp [Builtin.len_, run_und hu, hg, hlen]; rfl) (vrel_self rfl) hk
    · exact hk.elim
  · exact hk.elim
theorem sim_lenArr {t ty e : TypeId} {n : Nat} {cx : Value} {K : Value → H → Prop} (hu : P.underlying t = some (.array n e)) (hr : HRel P W ι h w) (hk : K (.int .i64 n) h) : Sim P W ι (Builtin.len_ #[t] ty #[cx]) w K :=
  Sim.quiet hr (by simp [Builtin.len_, run_und hu]; rfl) (vrel_self rfl) hk

theorem bytesOf_spec : ∀ (vs : List Value) (bs : List UInt8), bytesOf vs = some bs → ∃ ns : List Int, vs = ns.map (Value.int .u8) ∧ ∀ acc : ByteArray, ns.foldl (fun r n => r.push (UInt8.ofNat n.toNat)) acc = ⟨acc.data ++ bs.toArray⟩
  | [], bs, h => by simp [bytesOf] at h; subst h; exact ⟨[], rfl, fun acc => by simp⟩
  | v :: vs, bs, h => by
    obtain ⟨n, rfl⟩ : ∃ n, v = .int .u8 n := by
      cases v with
      | int k n => cases k with
        | u8 => exact ⟨n, rfl⟩
        | _ => simp [bytesOf] at h
      | _ => simp [bytesOf] at h
    simp only [bytesOf] at h
    cases hb : bytesOf vs with
    | none => rw [hb] at h; cases h
    | some bs' =>
      rw [hb] at h
      simp only [Option.map_some, Option.some.injEq] at h
      subst h
      obtain ⟨ns, rfl, hns⟩ := bytesOf_spec vs bs' hb
      refine ⟨n :: ns, rfl, fun acc => ?_⟩
      rw [List.foldl_cons, hns]
      congr 1
      apply Array.ext'
      simp [ByteArray.push]
theorem sim_bytesToString {s e d : TypeId} {x cx : Value} {K : Value → H → Prop} (hs : P.underlying s = some (.slice e)) (hd : P.underlying d = some .string) (he : P.underlying e = some (.int .u8))
    (hr : HRel P W ι h w) (hx : VRel ι x cx) (hk : o_bytesToString x h fun v => K v h) : Sim P W ι (convert s d cx) w K := by
  have hcv : ∀ (a : Option Addr) (n c : Nat), (convert s d (.slice a n c)).run P w = (Conv.bytesToString (.slice a n c)).run P w := fun a n c => run_convert_bytes_string w s d e a n c hs he hd
  unfold o_bytesToString at hk
  split at hk
  · obtain rfl : cx = .slice none 0 0 := vrel_eq rfl hx
    exact Sim.quiet (cv := .string .empty) hr (by rw [hcv]; simp [Conv.bytesToString]) (vrel_self rfl) hk
  · rename_i b o n _
    obtain ⟨a', n', c', rfl, rfl, ha⟩ := hx.sliceAny
    obtain ⟨a, rfl⟩ : ∃ a, a' = some a := by cases a' <;> simp_all
    split at hk
    · subst_vars
      have := run_bytesToString (P := P) w a 0 c' [] (by simp [loadCells, loadCellsFrom])
      exact Sim.quiet (cv := .string .empty) hr (by rw [hcv, this]; rfl) (vrel_self rfl) hk
    · rename_i hn0
      split at hk
      · rename_i vs hvs
        split at hk
        · rename_i bs hbs
          rcases hx.slice with ⟨l, hl, he'⟩ | ⟨h0, _⟩ | ⟨h0, _⟩
          · simp only [Value.slice.injEq, Option.some.injEq] at he'
            obtain ⟨rfl, _, _⟩ := he'
            obtain ⟨vs', q1, q2, q3⟩ := read_cells hr hvs hl
            obtain ⟨ns, rfl, hns⟩ := bytesOf_spec vs bs hbs
            obtain rfl : vs' = ns.map (Value.int .u8) := all2_crel_eq q1 (by simp [List.all_map, selfC])
            have hload := run_loadCells_list (P := P) w ⟨l.b, l.o + o, none⟩ _ q3
            rw [q2] at hload
            have := run_bytesToString (P := P) w ⟨l.b, l.o + o, none⟩ n' c' ns hload
            rw [hns] at this
            refine Sim.quiet (cv := .string ⟨bs.toArray⟩) hr ?_ (vrel_self rfl) hk
            rw [hcv]
            have e1 : (ByteArray.empty.data ++ bs.toArray) = bs.toArray := by
              show #[] ++ bs.toArray = bs.toArray
              simp
            rw [e1] at this
            exact this
          · exact absurd h0 hn0
          · exact absurd h0 hn0
        · exact hk.elim
      · exact hk.elim
  · exact hk.elim

theorem sim_stringToBytes {s e d : TypeId} {i : TypeInfo} {x cx : Value} {K : Value → H → Prop} (hs : P.underlying s = some .string) (hd : P.underlying d = some (.slice e)) (he : P.underlying e = some (.int .u8)) (hi : P.info? e = some i) (hi1 : i.size = 1)
    (hr : HRel P W ι h w) (hx : VRel ι x cx) (hk : o_stringToBytes e x h K) : Sim P W ι (convert s d cx) w K := by
  unfold o_stringToBytes at hk
  split at hk
  · rename_i x
    obtain rfl := hx.string
    have hcv : (convert s d (.string x)).run P w = (Conv.stringToBytes e x).run P w := by
      simp [convert, run_und hs, run_und hd, run_und he]
    obtain ⟨C, w0, hC, hw0, hch⟩ : ∃ C w0, x.size ≤ C ∧ (w0 = { w with drawn := w.drawn + 1 }) ∧ (choose (.appendCap x.size 0 e)).run P w = .ok C w0 := by
      refine ⟨(Question.appendCap x.size 0 e).cut (w.tape w.drawn (.appendCap x.size 0 e)), { w with drawn := w.drawn + 1 }, ?_, rfl, ?_⟩
      · simp [Question.cut]
      · rw [run_choose]; rfl
    have hr0 : HRel P W ι h w0 := by rw [hw0]; exact hr.drawn _
    have hcs : All2 (CRel ι) (x.data.toList.map fun b => Value.int .u8 b.toNat) (x.data.toList.map fun b => Value.int .u8 b.toNat) := All2.refl_of fun a ha => by
      obtain ⟨b, _, rfl⟩ := List.mem_map.1 ha
      exact .s (.int _ _)
    obtain ⟨b, ι', h1, h2, h3, h4⟩ := sim_new (m := .open) (rest := List.replicate (C - x.size) (Value.int .u8 0)) (k := C - x.size) hr0 (by simp) hcs (by simp) (fun _ => by simp [szOf, hi, hi1]) hk
    let A : Array Value := ((x.data.toList.map fun b => Value.int .u8 b.toNat) ++ List.replicate (C - x.size) (Value.int .u8 0)).toArray
    have hA : (x.data.map fun b => Value.int .u8 b.toNat) ++ Array.replicate (C - x.size) (Value.int .u8 0) = A := by
      apply Array.ext'; simp [A]
    let w1 := w0.alloc (.cells A e)
    have hw1 : w1.heap[w0.heap.size]? = some (.cells A e (0, 0)) := alloc_get_new _ _
    have hlt : w0.heap.size < w1.heap.size := by simp [w1]
    have hfr : w1.freeze { block := w0.heap.size, off := A.size } 1 = setBlk w1 w0.heap.size (.cells A e (A.size, A.size + 1)) := by
      simp only [World.freeze, setBlk]
      rw [if_neg (by simp)]
      congr 1
      apply Array.ext_getElem?
      intro j
      rw [Array.getElem?_modify, Array.getElem?_setIfInBounds]
      by_cases hj : w0.heap.size = j
      · subst hj; simp only [if_true, hw1, Option.map_some, hlt]; simp
      · simp [hj]
    have hrun : (convert s d (.string x)).run P w = .ok (.slice (some ⟨w0.heap.size, 0, none⟩) x.size C) (setBlk w1 w0.heap.size (.cells A e (A.size, A.size + 1))) := by
      rw [hcv]
      have hsh : w1.shape? w0.heap.size = some (e, A.size) := by simp [World.shape?, hw1]
      simp only [Conv.stringToBytes, Sem.run_bind, hch, Result.andThen_ok, newRow, run_newObj, Sem.run_pure, hA, markStringish, run_shape]
      have : (({ w0 with heap := w0.heap.push (.cells A e) } : World).shape? w0.heap.size) = some (e, A.size) := hsh
      simp only [this, run_freeze, Result.andThen_ok]
      congr 1
    refine ⟨_, _, ι', .slice (some ⟨b, 0, none⟩) x.size x.size, _, hrun, h1, ?_, ?_, h4⟩
    · obtain ⟨ccs, CE, lo, hi', g1, g2, g3, g4, g5, g6⟩ := h3.obj' (upd_same _ _ _) h2
      have hcc : ccs = A ∧ CE = e := by
        have : w1.heap[w0.heap.size]? = some (.cells ccs CE (lo, hi')) := g1
        rw [hw1] at this; cases this; exact ⟨rfl, rfl⟩
      obtain ⟨rfl, rfl⟩ := hcc
      have hset := h3.set (w' := setBlk w1 w0.heap.size (.cells A CE (A.size, A.size + 1))) (o' := .cells (x.data.toList.map fun b => Value.int .u8 b.toNat) CE .open) (upd_same _ _ _) h2 rfl (setBlk_size _ _ _) (fun c hc => setBlk_ne _ _ hc) rfl rfl rfl hr0.below.size
        (fun es cl he => by rw [setBlk_same _ _ hlt] at he; cases he) ⟨A, CE, A.size, A.size + 1, setBlk_same _ _ hlt, g2, g3, fun hm => ⟨(g4 hm).1, fun j hj => by omega⟩, g5, g6⟩
      have : upd (upd h b (.cells (x.data.toList.map fun b => Value.int .u8 b.toNat) CE .open)) b (.cells (x.data.toList.map fun b => Value.int .u8 b.toNat) CE .open) = upd h b (.cells (x.data.toList.map fun b => Value.int .u8 b.toNat) CE .open) := by
        funext c; unfold upd; split <;> rfl
      rw [this] at hset; exact hset
    · have := vrel_slice_new (len := x.size) h2
      rw [show x.size + (C - x.size) = C by omega] at this
      exact this
  · exact hk.elim

theorem upd_id {h : H} {b : Nat} {o : AObj} (hb : h b = some o) : upd h b o = h := by
  funext c; unfold upd; split
  · rename_i e; rw [e, hb]
  · rfl
theorem sim_mark {s d e : TypeId} {x cx : Value} {K : Value → H → Prop} (hs : ∃ e', P.underlying s = some (.slice e')) (hd : P.underlying d = some (.slice e)) (he : P.underlying e = some (.int .u8)) (hsd : s = d)
    (hr : HRel P W ι h w) (hx : VRel ι x cx) (hk : o_mark x h fun v => K v h) : Sim P W ι (convert s d cx) w K := by
  obtain ⟨e', hs⟩ := hs
  unfold o_mark at hk
  split at hk
  · rename_i b o n c
    split at hk
    · rename_i cs E m hb
      obtain ⟨hm, hk⟩ := hk
      rcases hx.slice with ⟨l, hl, he'⟩ | ⟨_, _, h0, _⟩ | ⟨_, _, h0, _⟩
      · subst he'
        obtain ⟨ccs, CE, lo, hi, g1, g2, g3, g4, g5, g6⟩ := hr.obj' hb hl
        obtain ⟨hB, hfz⟩ := g4 hm
        have hlt := hr.inb b l hl
        obtain ⟨fz, hfz1, hfr⟩ : ∃ fz : Nat × Nat, (∀ i, i < ccs.size → ¬(fz.1 ≤ i ∧ fz.1 ≠ fz.2)) ∧ w.freeze { block := l.b, off := ccs.size } 1 = setBlk w l.b (.cells ccs CE fz) := by
          refine ⟨if lo = hi then (ccs.size, ccs.size + 1) else (min lo ccs.size, max hi (ccs.size + 1)), ?_, ?_⟩
          · intro i hi2
            have := hfz i hi2
            split
            · simp only; omega
            · simp only; omega
          · simp only [World.freeze, setBlk]
            rw [if_neg (by simp)]
            congr 1
            apply Array.ext_getElem?
            intro j
            rw [Array.getElem?_modify, Array.getElem?_setIfInBounds]
            by_cases hj : l.b = j
            · subst hj; simp only [if_true, g1, Option.map_some, hlt]; simp
            · simp [hj]
        have hsh : w.shape? l.b = some (CE, ccs.size) := by simp [World.shape?, g1]
        have hrun : (convert s d (.slice (some ⟨l.b, l.o + o, none⟩) n (c + l.k))).run P w = .ok (.slice (some ⟨l.b, l.o + o, none⟩) n (c + l.k)) (setBlk w l.b (.cells ccs CE fz)) := by
          subst hsd
          have hee : e' = e := by rw [hs] at hd; cases hd; rfl
          subst hee
          rw [← hfr]
          simp [convert, run_und hs, run_und he, markStringish, run_shape, hsh, run_freeze]
        refine ⟨_, _, ι, .slice (some ⟨b, o, none⟩) n c, h, hrun, Env.le_refl _, ?_, .a (.c (.s (.slice hl))), hk⟩
        have hset := hr.set (w' := setBlk w l.b (.cells ccs CE fz)) (o' := .cells cs E m) hb hl (by cases m <;> first | rfl | exact absurd rfl hm) (setBlk_size _ _ _) (fun c hc => setBlk_ne _ _ hc) rfl rfl rfl hB
          (fun es cl he => by rw [setBlk_same _ _ hlt] at he; cases he) ⟨ccs, CE, fz.1, fz.2, setBlk_same _ _ hlt, g2, g3, fun _ => ⟨hB, hfz1⟩, g5, g6⟩
        rw [upd_id hb] at hset; exact hset
      · obtain ⟨l, hl, _⟩ := hr.obj _ _ hb; rw [h0, hr.z0] at hl; cases hl
      · obtain ⟨l, hl, _⟩ := hr.obj _ _ hb; rw [h0, hr.z1] at hl; cases hl
    · exact hk.elim
  · exact hk.elim
end
end Go.Proofs.YtbmfblmebhobiaaGreat.AM

