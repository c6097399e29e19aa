/-
  'SlowRead' over the abstract memory; the bytes that come in.
-/
import Derived.Test.YtbmfblmebhobiaaGreatR3f
import Derived.Test.YtbmfblmebhobiaaGreatR3t
import Derived.Test.YtbmfblmebhobiaaGreatM4
import Derived.KernelRfl
import Derived.ProofKit
import Derived.Deep.Slices
set_option linter.unusedSimpArgs false
set_option linter.unusedVariables false
set_option maxRecDepth 100000
namespace Go.Proofs.YtbmfblmebhobiaaGreat
open AM
open Go.ChangeShapes Go.WideShapes Go.ChangeAt Go.RowKit
/-! ### Over the abstract memory -/
def ρs (t : LObj) : Ren := fun b => if b = 0 then some (0, t) else if b = 1 then some (1, undefT) else if b = 2 then some (2, undefT) else none
theorem ρs_two (t : LObj) (b b' : Nat) (t' : LObj) (hb : 2 ≤ b) (he : ρs t b = some (b', t')) : 2 ≤ b' := by
  unfold ρs at he
  rw [if_neg (by omega), if_neg (by omega)] at he
  split at he
  · cases he; omega
  · cases he
theorem ρs_top (t : LObj) (b : Nat) (hb : 3 ≤ b) : ρs t b = none := by
  unfold ρs
  rw [if_neg (by omega), if_neg (by omega), if_neg (by omega)]
theorem sim0 (t : LObj) (h : H) : XSim h (ρs t) 3 .nil h where
  z0 := ⟨t, rfl⟩
  z1 := ⟨undefT, rfl⟩
  two := ρs_two t
  top b hb := ρs_top t b hb
  n2 := by omega
  obj b o hb _ := by rw [Tr.get_nil] at hb; cases hb
  inj b c o o' x t t' hb := by rw [Tr.get_nil] at hb; cases hb
  fr c o hc := hc
  fsep b o x t hb := by rw [Tr.get_nil] at hb; cases hb
theorem sim4 {vs : List Value} {l b0 b1 b2 b3 : Nat} (hvs : vs = mkToks l b0 b1 b2 b3) (hg : tokG vs) {h : H} (hh : h 2 = some (.cells [.int .u8 b0, .int .u8 b1, .int .u8 b2, .int .u8 b3] 5 .ro)) :
    XSim (fun c => if c = 2 then none else h c) (ρs (tokL vs)) 3 eh3 h := by
  have hget : ∀ b o, eh3.get b = some o → b = 2 ∧ o = .cells (.cat (.cat (.one (T1 1)) (.one (T1 2))) (.cat (.one (T1 3)) (.one (T1 4)))) 5 .ro := by
    intro b o hb
    by_cases h2 : b = 2
    · subst h2
      refine ⟨rfl, ?_⟩
      have e : eh3.get 2 = some (.cells (.cat (.cat (.one (T1 1)) (.one (T1 2))) (.cat (.one (T1 3)) (.one (T1 4)))) 5 .ro) := by kernel_rfl
      rw [e] at hb; cases hb; rfl
    · exfalso
      have e : eh3 = Tr.set .nil 2 (.cells (.cat (.cat (.one (T1 1)) (.one (T1 2))) (.cat (.one (T1 3)) (.one (T1 4)))) 5 .ro) := by kernel_rfl
      rw [e, Tr.get_set, if_neg h2, Tr.get_nil] at hb; cases hb
  refine ⟨⟨_, rfl⟩, ⟨_, rfl⟩, ρs_two _, ρs_top _, by omega, ?_, ?_, ?_, ?_⟩
  · intro b o hb hd
    obtain ⟨rfl, rfl⟩ := hget b o hb
    refine ⟨2, undefT, _, rfl, hh, .cells ?_⟩
    have tk : ∀ k v, vs[k]? = some v → RC (ρs (tokL vs)) (T1 k) v := fun k v hv => .s (.tok rfl hv hg)
    exact .cons (tk 1 _ (by rw [hvs]; rfl)) (.cons (tk 2 _ (by rw [hvs]; rfl)) (.cons (tk 3 _ (by rw [hvs]; rfl)) (.cons (tk 4 _ (by rw [hvs]; rfl)) .nil)))
  · intro b c o o' x t t' hb _ hc _ _ _
    rw [(hget b o hb).1, (hget c o' hc).1]
  · intro c o hc
    split at hc
    · cases hc
    · exact hc
  · intro b o x t hb _ hx
    obtain ⟨rfl, rfl⟩ := hget b o hb
    cases hx
    rfl
theorem runN (l : Int) (r : Bool) : okT (runEWA Tryz.prog SL3 (nthN masks) (litOf 6 35 6 ps6) pl3 100000 3 [.c (.slice none 0 0), .c (.int .u8 l), .c (.bool r)] .nil 3) = true := by kernel_rfl
theorem runL (l : Int) (r : Bool) (b : Nat) : okT (runEWA Tryz.prog SL3 (nthN masks) (litOf 6 35 6 ps6) pl3 100000 3 [.c (.slice (some ⟨b, 0, none⟩) 0 CAPT), .c (.int .u8 l), .c (.bool r)] .nil 3) = true := by kernel_rfl
theorem runL1 (l : Int) (r : Bool) (b : Nat) : okT (runEWA Tryz.prog SL3 (nthN masks) (litOf 6 35 6 ps6) pl3 100000 3 [.c (.slice (some ⟨b, 0, none⟩) 1 CAPT), .c (.int .u8 l), .c (.bool r)] .nil 3) = true := by kernel_rfl
theorem runL2 (l : Int) (r : Bool) (b : Nat) : okT (runEWA Tryz.prog SL3 (nthN masks) (litOf 6 35 6 ps6) pl3 100000 3 [.c (.slice (some ⟨b, 0, none⟩) 2 CAPT), .c (.int .u8 l), .c (.bool r)] .nil 3) = true := by kernel_rfl
theorem runL3 (l : Int) (r : Bool) (b : Nat) : okT (runEWA Tryz.prog SL3 (nthN masks) (litOf 6 35 6 ps6) pl3 100000 3 [.c (.slice (some ⟨b, 0, none⟩) 3 CAPT), .c (.int .u8 l), .c (.bool r)] .nil 3) = true := by kernel_rfl
theorem runM (l : Int) (r : Bool) (b j : Nat) : okT (runEWA Tryz.prog SL3 (nthN masks) (litOf 6 35 6 ps6) pl3 100000 3 [.c (.slice (some ⟨b, 0, none⟩) j.succ.succ.succ.succ.succ CAPT), .c (.int .u8 l), .c (.bool r)] .nil 3) = true := by kernel_rfl
theorem runZ (r : Bool) (b : Nat) : okT (runEWA Tryz.prog SL3 (nthN masks) (litOf 6 35 6 ps6) pl3 100000 3 [.c (.slice (some ⟨b, 0, none⟩) 4 CAPT), .c (.int .u8 0), .c (.bool r)] .nil 3) = true := by kernel_rfl
end Go.Proofs.YtbmfblmebhobiaaGreat
