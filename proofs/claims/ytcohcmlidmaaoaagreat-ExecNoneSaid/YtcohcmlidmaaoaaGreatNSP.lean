/-
  Functions of the program, taken apart over the abstract memory: each piece of the loaded code as a proposition; printed by a program (gen.py).
-/
import Derived.Test.YtcohcmlidmaaoaaGreatNC
import Derived.Test.YtcohcmlidmaaoaaGreatNZ
import Derived.KernelRfl
set_option linter.unusedVariables false
set_option linter.unusedSimpArgs false
set_option maxRecDepth 100000
namespace Go.Proofs.YtcohcmlidmaaoaaGreat
open Go.Proofs.YtcohcmlidmaaoaaGreat.AM
/-! #### 9: tincture/tincturelaw20.same -/
abbrev pt (b o : Nat) : Value := .pointer (some ⟨b, o, none⟩)
@[reducible] noncomputable def R9 : Array Oper := regOps (seqL (rest 2 (bodyOf Tryz.f9.body)))
theorem A9_size : R9.size = 155 := by kernel_rfl
theorem A9_back : backB R9 = true := by kernel_rfl
section
variable (K : T → H → Prop) (t : T) (h : H)
theorem s9_0 : aStep Tryz.prog R9 0 K t h = (K (tset t 18 (t 0)) h) := by kernel_rfl
theorem s9_1 : aStep Tryz.prog R9 1 K t h = (o_nilCheck (t 18) fun v19 => K (tset t 19 v19) h) := by kernel_rfl
theorem s9_2 : aStep Tryz.prog R9 2 K t h = (o_fieldAddr 0 (t 19) fun v20 => K (tset t 20 v20) h) := by kernel_rfl
theorem s9_3 : aStep Tryz.prog R9 3 K t h = (o_load false 1 (t 20) h fun v21 => K (tset t 21 v21) h) := by kernel_rfl
theorem s9_4 : aStep Tryz.prog R9 4 K t h = (o_call Tryz.prog 26 [(t 21), (.int .i64 1)] h fun v22 h => K (tset t 22 v22) h) := by kernel_rfl
theorem s9_5 : aStep Tryz.prog R9 5 K t h = (K (tset t 23 (t 1)) h) := by kernel_rfl
theorem s9_6 : aStep Tryz.prog R9 6 K t h = (o_nilCheck (t 23) fun v24 => K (tset t 24 v24) h) := by kernel_rfl
theorem s9_7 : aStep Tryz.prog R9 7 K t h = (o_fieldAddr 0 (t 24) fun v25 => K (tset t 25 v25) h) := by kernel_rfl
theorem s9_8 : aStep Tryz.prog R9 8 K t h = (o_load false 1 (t 25) h fun v26 => K (tset t 26 v26) h) := by kernel_rfl
theorem s9_9 : aStep Tryz.prog R9 9 K t h = (o_call Tryz.prog 25 [(t 22), (t 26)] h fun v27 h => K (tset t 27 v27) h) := by kernel_rfl
theorem s9_10 : aStep Tryz.prog R9 10 K t h = (K (tset t 28 (t 27)) h) := by kernel_rfl
theorem s9_11 : aStep Tryz.prog R9 11 K t h = (o_guard (t 28) true (fun k => k (t 0) h) (fun v29 h => K (tset t 29 v29) h) h) := by kernel_rfl
theorem s9_12 : aStep Tryz.prog R9 12 K t h = (o_guard (t 28) true (fun k => o_nilCheck (t 29) fun v30 => k v30 h) (fun v30 h => K (tset t 30 v30) h) h) := by kernel_rfl
theorem s9_13 : aStep Tryz.prog R9 13 K t h = (o_guard (t 28) true (fun k => o_fieldAddr 1 (t 30) fun v31 => k v31 h) (fun v31 h => K (tset t 31 v31) h) h) := by kernel_rfl
theorem s9_14 : aStep Tryz.prog R9 14 K t h = (o_guard (t 28) true (fun k => o_load false 1 (t 31) h fun v32 => k v32 h) (fun v32 h => K (tset t 32 v32) h) h) := by kernel_rfl
theorem s9_15 : aStep Tryz.prog R9 15 K t h = (o_guard (t 28) true (fun k => o_call Tryz.prog 28 [(t 32), (.int .i64 1)] h fun v33 h => k v33 h) (fun v33 h => K (tset t 33 v33) h) h) := by kernel_rfl
theorem s9_16 : aStep Tryz.prog R9 16 K t h = (o_guard (t 28) true (fun k => k (t 1) h) (fun v34 h => K (tset t 34 v34) h) h) := by kernel_rfl
theorem s9_17 : aStep Tryz.prog R9 17 K t h = (o_guard (t 28) true (fun k => o_nilCheck (t 34) fun v35 => k v35 h) (fun v35 h => K (tset t 35 v35) h) h) := by kernel_rfl
theorem s9_18 : aStep Tryz.prog R9 18 K t h = (o_guard (t 28) true (fun k => o_fieldAddr 1 (t 35) fun v36 => k v36 h) (fun v36 h => K (tset t 36 v36) h) h) := by kernel_rfl
theorem s9_19 : aStep Tryz.prog R9 19 K t h = (o_guard (t 28) true (fun k => o_load false 1 (t 36) h fun v37 => k v37 h) (fun v37 h => K (tset t 37 v37) h) h) := by kernel_rfl
theorem s9_20 : aStep Tryz.prog R9 20 K t h = (o_guard (t 28) true (fun k => o_call Tryz.prog 27 [(t 33), (t 37)] h fun v38 h => k v38 h) (fun v38 h => K (tset t 38 v38) h) h) := by kernel_rfl
theorem s9_21 : aStep Tryz.prog R9 21 K t h = (o_pick (t 28) (t 38) (.bool false) fun v39 => K (tset t 39 v39) h) := by kernel_rfl
theorem s9_22 : aStep Tryz.prog R9 22 K t h = (K (tset t 40 (t 39)) h) := by kernel_rfl
theorem s9_23 : aStep Tryz.prog R9 23 K t h = (o_guard (t 40) true (fun k => k (t 0) h) (fun v41 h => K (tset t 41 v41) h) h) := by kernel_rfl
theorem s9_24 : aStep Tryz.prog R9 24 K t h = (o_guard (t 40) true (fun k => o_nilCheck (t 41) fun v42 => k v42 h) (fun v42 h => K (tset t 42 v42) h) h) := by kernel_rfl
theorem s9_25 : aStep Tryz.prog R9 25 K t h = (o_guard (t 40) true (fun k => o_fieldAddr 2 (t 42) fun v43 => k v43 h) (fun v43 h => K (tset t 43 v43) h) h) := by kernel_rfl
theorem s9_26 : aStep Tryz.prog R9 26 K t h = (o_guard (t 40) true (fun k => o_load true 34 (t 43) h fun v44 => k v44 h) (fun v44 h => K (tset t 44 v44) h) h) := by kernel_rfl
theorem s9_27 : aStep Tryz.prog R9 27 K t h = (o_guard (t 40) true (fun k => o_call Tryz.prog 29 [(t 44)] h fun v45 h => k v45 h) (fun v45 h => K (tset t 45 v45) h) h) := by kernel_rfl
theorem s9_28 : aStep Tryz.prog R9 28 K t h = (o_guard (t 40) true (fun k => k (t 1) h) (fun v46 h => K (tset t 46 v46) h) h) := by kernel_rfl
theorem s9_29 : aStep Tryz.prog R9 29 K t h = (o_guard (t 40) true (fun k => o_nilCheck (t 46) fun v47 => k v47 h) (fun v47 h => K (tset t 47 v47) h) h) := by kernel_rfl
theorem s9_30 : aStep Tryz.prog R9 30 K t h = (o_guard (t 40) true (fun k => o_fieldAddr 2 (t 47) fun v48 => k v48 h) (fun v48 h => K (tset t 48 v48) h) h) := by kernel_rfl
theorem s9_31 : aStep Tryz.prog R9 31 K t h = (o_guard (t 40) true (fun k => o_load true 34 (t 48) h fun v49 => k v49 h) (fun v49 h => K (tset t 49 v49) h) h) := by kernel_rfl
theorem s9_32 : aStep Tryz.prog R9 32 K t h = (o_guard (t 40) true (fun k => o_call Tryz.prog 29 [(t 49)] h fun v50 h => k v50 h) (fun v50 h => K (tset t 50 v50) h) h) := by kernel_rfl
theorem s9_33 : aStep Tryz.prog R9 33 K t h = (o_guard (t 40) true (fun k => o_bin Tryz.prog .eql 51 (t 45) (t 50) fun v51 => k v51 h) (fun v51 h => K (tset t 51 v51) h) h) := by kernel_rfl
theorem s9_34 : aStep Tryz.prog R9 34 K t h = (o_pick (t 40) (t 51) (.bool false) fun v52 => K (tset t 52 v52) h) := by kernel_rfl
theorem s9_35 : aStep Tryz.prog R9 35 K t h = (K (tset t 53 (t 52)) h) := by kernel_rfl
theorem s9_36 : aStep Tryz.prog R9 36 K t h = (o_guard (t 53) true (fun k => k (t 0) h) (fun v54 h => K (tset t 54 v54) h) h) := by kernel_rfl
theorem s9_37 : aStep Tryz.prog R9 37 K t h = (o_guard (t 53) true (fun k => o_nilCheck (t 54) fun v55 => k v55 h) (fun v55 h => K (tset t 55 v55) h) h) := by kernel_rfl
theorem s9_38 : aStep Tryz.prog R9 38 K t h = (o_guard (t 53) true (fun k => o_fieldAddr 36 (t 55) fun v56 => k v56 h) (fun v56 h => K (tset t 56 v56) h) h) := by kernel_rfl
theorem s9_39 : aStep Tryz.prog R9 39 K t h = (o_guard (t 53) true (fun k => o_load true 128 (t 56) h fun v57 => k v57 h) (fun v57 h => K (tset t 57 v57) h) h) := by kernel_rfl
theorem s9_40 : aStep Tryz.prog R9 40 K t h = (o_guard (t 53) true (fun k => o_call Tryz.prog 31 [(t 57)] h fun v58 h => k v58 h) (fun v58 h => K (tset t 58 v58) h) h) := by kernel_rfl
theorem s9_41 : aStep Tryz.prog R9 41 K t h = (o_guard (t 53) true (fun k => o_call Tryz.prog 30 [(t 58)] h fun v59 h => k v59 h) (fun v59 h => K (tset t 59 v59) h) h) := by kernel_rfl
theorem s9_42 : aStep Tryz.prog R9 42 K t h = (o_guard (t 53) true (fun k => k (t 1) h) (fun v60 h => K (tset t 60 v60) h) h) := by kernel_rfl
theorem s9_43 : aStep Tryz.prog R9 43 K t h = (o_guard (t 53) true (fun k => o_nilCheck (t 60) fun v61 => k v61 h) (fun v61 h => K (tset t 61 v61) h) h) := by kernel_rfl
theorem s9_44 : aStep Tryz.prog R9 44 K t h = (o_guard (t 53) true (fun k => o_fieldAddr 36 (t 61) fun v62 => k v62 h) (fun v62 h => K (tset t 62 v62) h) h) := by kernel_rfl
theorem s9_45 : aStep Tryz.prog R9 45 K t h = (o_guard (t 53) true (fun k => o_load true 128 (t 62) h fun v63 => k v63 h) (fun v63 h => K (tset t 63 v63) h) h) := by kernel_rfl
theorem s9_46 : aStep Tryz.prog R9 46 K t h = (o_guard (t 53) true (fun k => o_call Tryz.prog 30 [(t 63)] h fun v64 h => k v64 h) (fun v64 h => K (tset t 64 v64) h) h) := by kernel_rfl
theorem s9_47 : aStep Tryz.prog R9 47 K t h = (o_guard (t 53) true (fun k => o_bin Tryz.prog .eql 56 (t 59) (t 64) fun v65 => k v65 h) (fun v65 h => K (tset t 65 v65) h) h) := by kernel_rfl
theorem s9_48 : aStep Tryz.prog R9 48 K t h = (o_pick (t 53) (t 65) (.bool false) fun v66 => K (tset t 66 v66) h) := by kernel_rfl
theorem s9_49 : aStep Tryz.prog R9 49 K t h = (K (tset t 67 (t 66)) h) := by kernel_rfl
theorem s9_50 : aStep Tryz.prog R9 50 K t h = (o_guard (t 67) true (fun k => k (t 0) h) (fun v68 h => K (tset t 68 v68) h) h) := by kernel_rfl
theorem s9_51 : aStep Tryz.prog R9 51 K t h = (o_guard (t 67) true (fun k => o_nilCheck (t 68) fun v69 => k v69 h) (fun v69 h => K (tset t 69 v69) h) h) := by kernel_rfl
theorem s9_52 : aStep Tryz.prog R9 52 K t h = (o_guard (t 67) true (fun k => o_fieldAddr 168 (t 69) fun v70 => k v70 h) (fun v70 h => K (tset t 70 v70) h) h) := by kernel_rfl
theorem s9_53 : aStep Tryz.prog R9 53 K t h = (o_guard (t 67) true (fun k => o_load false 1 (t 70) h fun v71 => k v71 h) (fun v71 h => K (tset t 71 v71) h) h) := by kernel_rfl
theorem s9_54 : aStep Tryz.prog R9 54 K t h = (o_guard (t 67) true (fun k => k (t 1) h) (fun v72 h => K (tset t 72 v72) h) h) := by kernel_rfl
theorem s9_55 : aStep Tryz.prog R9 55 K t h = (o_guard (t 67) true (fun k => o_nilCheck (t 72) fun v73 => k v73 h) (fun v73 h => K (tset t 73 v73) h) h) := by kernel_rfl
theorem s9_56 : aStep Tryz.prog R9 56 K t h = (o_guard (t 67) true (fun k => o_fieldAddr 168 (t 73) fun v74 => k v74 h) (fun v74 h => K (tset t 74 v74) h) h) := by kernel_rfl
theorem s9_57 : aStep Tryz.prog R9 57 K t h = (o_guard (t 67) true (fun k => o_load false 1 (t 74) h fun v75 => k v75 h) (fun v75 h => K (tset t 75 v75) h) h) := by kernel_rfl
theorem s9_58 : aStep Tryz.prog R9 58 K t h = (o_guard (t 67) true (fun k => o_bin Tryz.prog .eql 27 (t 71) (t 75) fun v76 => k v76 h) (fun v76 h => K (tset t 76 v76) h) h) := by kernel_rfl
theorem s9_59 : aStep Tryz.prog R9 59 K t h = (o_pick (t 67) (t 76) (.bool false) fun v77 => K (tset t 77 v77) h) := by kernel_rfl
theorem s9_60 : aStep Tryz.prog R9 60 K t h = (K (tset t 78 (t 77)) h) := by kernel_rfl
theorem s9_61 : aStep Tryz.prog R9 61 K t h = (o_guard (t 78) true (fun k => k (t 0) h) (fun v79 h => K (tset t 79 v79) h) h) := by kernel_rfl
theorem s9_62 : aStep Tryz.prog R9 62 K t h = (o_guard (t 78) true (fun k => o_nilCheck (t 79) fun v80 => k v80 h) (fun v80 h => K (tset t 80 v80) h) h) := by kernel_rfl
theorem s9_63 : aStep Tryz.prog R9 63 K t h = (o_guard (t 78) true (fun k => o_fieldAddr 169 (t 80) fun v81 => k v81 h) (fun v81 h => K (tset t 81 v81) h) h) := by kernel_rfl
theorem s9_64 : aStep Tryz.prog R9 64 K t h = (o_guard (t 78) true (fun k => o_load false 1 (t 81) h fun v82 => k v82 h) (fun v82 h => K (tset t 82 v82) h) h) := by kernel_rfl
theorem s9_65 : aStep Tryz.prog R9 65 K t h = (o_guard (t 78) true (fun k => k (t 1) h) (fun v83 h => K (tset t 83 v83) h) h) := by kernel_rfl
theorem s9_66 : aStep Tryz.prog R9 66 K t h = (o_guard (t 78) true (fun k => o_nilCheck (t 83) fun v84 => k v84 h) (fun v84 h => K (tset t 84 v84) h) h) := by kernel_rfl
theorem s9_67 : aStep Tryz.prog R9 67 K t h = (o_guard (t 78) true (fun k => o_fieldAddr 169 (t 84) fun v85 => k v85 h) (fun v85 h => K (tset t 85 v85) h) h) := by kernel_rfl
theorem s9_68 : aStep Tryz.prog R9 68 K t h = (o_guard (t 78) true (fun k => o_load false 1 (t 85) h fun v86 => k v86 h) (fun v86 h => K (tset t 86 v86) h) h) := by kernel_rfl
theorem s9_69 : aStep Tryz.prog R9 69 K t h = (o_guard (t 78) true (fun k => o_bin Tryz.prog .eql 27 (t 82) (t 86) fun v87 => k v87 h) (fun v87 h => K (tset t 87 v87) h) h) := by kernel_rfl
theorem s9_70 : aStep Tryz.prog R9 70 K t h = (o_pick (t 78) (t 87) (.bool false) fun v88 => K (tset t 88 v88) h) := by kernel_rfl
theorem s9_71 : aStep Tryz.prog R9 71 K t h = (K (tset t 89 (t 88)) h) := by kernel_rfl
theorem s9_72 : aStep Tryz.prog R9 72 K t h = (o_guard (t 89) true (fun k => k (t 0) h) (fun v90 h => K (tset t 90 v90) h) h) := by kernel_rfl
theorem s9_73 : aStep Tryz.prog R9 73 K t h = (o_guard (t 89) true (fun k => o_nilCheck (t 90) fun v91 => k v91 h) (fun v91 h => K (tset t 91 v91) h) h) := by kernel_rfl
theorem s9_74 : aStep Tryz.prog R9 74 K t h = (o_guard (t 89) true (fun k => o_fieldAddr 170 (t 91) fun v92 => k v92 h) (fun v92 h => K (tset t 92 v92) h) h) := by kernel_rfl
theorem s9_75 : aStep Tryz.prog R9 75 K t h = (o_guard (t 89) true (fun k => o_load false 1 (t 92) h fun v93 => k v93 h) (fun v93 h => K (tset t 93 v93) h) h) := by kernel_rfl
theorem s9_76 : aStep Tryz.prog R9 76 K t h = (o_guard (t 89) true (fun k => k (t 1) h) (fun v94 h => K (tset t 94 v94) h) h) := by kernel_rfl
theorem s9_77 : aStep Tryz.prog R9 77 K t h = (o_guard (t 89) true (fun k => o_nilCheck (t 94) fun v95 => k v95 h) (fun v95 h => K (tset t 95 v95) h) h) := by kernel_rfl
theorem s9_78 : aStep Tryz.prog R9 78 K t h = (o_guard (t 89) true (fun k => o_fieldAddr 170 (t 95) fun v96 => k v96 h) (fun v96 h => K (tset t 96 v96) h) h) := by kernel_rfl
theorem s9_79 : aStep Tryz.prog R9 79 K t h = (o_guard (t 89) true (fun k => o_load false 1 (t 96) h fun v97 => k v97 h) (fun v97 h => K (tset t 97 v97) h) h) := by kernel_rfl
theorem s9_80 : aStep Tryz.prog R9 80 K t h = (o_guard (t 89) true (fun k => o_call Tryz.prog 32 [(t 93), (t 97)] h fun v98 h => k v98 h) (fun v98 h => K (tset t 98 v98) h) h) := by kernel_rfl
theorem s9_81 : aStep Tryz.prog R9 81 K t h = (o_pick (t 89) (t 98) (.bool false) fun v99 => K (tset t 99 v99) h) := by kernel_rfl
theorem s9_82 : aStep Tryz.prog R9 82 K t h = (K (tset t 100 (t 99)) h) := by kernel_rfl
theorem s9_83 : aStep Tryz.prog R9 83 K t h = (o_guard (t 100) true (fun k => k (t 0) h) (fun v101 h => K (tset t 101 v101) h) h) := by kernel_rfl
theorem s9_84 : aStep Tryz.prog R9 84 K t h = (o_guard (t 100) true (fun k => o_nilCheck (t 101) fun v102 => k v102 h) (fun v102 h => K (tset t 102 v102) h) h) := by kernel_rfl
theorem s9_85 : aStep Tryz.prog R9 85 K t h = (o_guard (t 100) true (fun k => o_fieldAddr 164 (t 102) fun v103 => k v103 h) (fun v103 h => K (tset t 103 v103) h) h) := by kernel_rfl
theorem s9_86 : aStep Tryz.prog R9 86 K t h = (o_guard (t 100) true (fun k => o_load false 1 (t 103) h fun v104 => k v104 h) (fun v104 h => K (tset t 104 v104) h) h) := by kernel_rfl
theorem s9_87 : aStep Tryz.prog R9 87 K t h = (o_guard (t 100) true (fun k => o_call Tryz.prog 33 [(t 104), (.int .i64 1)] h fun v105 h => k v105 h) (fun v105 h => K (tset t 105 v105) h) h) := by kernel_rfl
theorem s9_88 : aStep Tryz.prog R9 88 K t h = (o_guard (t 100) true (fun k => o_bytesToString (t 105) h fun v106 => k v106 h) (fun v106 h => K (tset t 106 v106) h) h) := by kernel_rfl
theorem s9_89 : aStep Tryz.prog R9 89 K t h = (o_guard (t 100) true (fun k => k (t 1) h) (fun v107 h => K (tset t 107 v107) h) h) := by kernel_rfl
theorem s9_90 : aStep Tryz.prog R9 90 K t h = (o_guard (t 100) true (fun k => o_nilCheck (t 107) fun v108 => k v108 h) (fun v108 h => K (tset t 108 v108) h) h) := by kernel_rfl
theorem s9_91 : aStep Tryz.prog R9 91 K t h = (o_guard (t 100) true (fun k => o_fieldAddr 164 (t 108) fun v109 => k v109 h) (fun v109 h => K (tset t 109 v109) h) h) := by kernel_rfl
theorem s9_92 : aStep Tryz.prog R9 92 K t h = (o_guard (t 100) true (fun k => o_load false 1 (t 109) h fun v110 => k v110 h) (fun v110 h => K (tset t 110 v110) h) h) := by kernel_rfl
theorem s9_93 : aStep Tryz.prog R9 93 K t h = (o_guard (t 100) true (fun k => o_call Tryz.prog 34 [(t 110), (.int .i64 1)] h fun v111 h => k v111 h) (fun v111 h => K (tset t 111 v111) h) h) := by kernel_rfl
theorem s9_94 : aStep Tryz.prog R9 94 K t h = (o_guard (t 100) true (fun k => o_bytesToString (t 111) h fun v112 => k v112 h) (fun v112 h => K (tset t 112 v112) h) h) := by kernel_rfl
theorem s9_95 : aStep Tryz.prog R9 95 K t h = (o_guard (t 100) true (fun k => o_bin Tryz.prog .eql 9 (t 106) (t 112) fun v113 => k v113 h) (fun v113 h => K (tset t 113 v113) h) h) := by kernel_rfl
theorem s9_96 : aStep Tryz.prog R9 96 K t h = (o_pick (t 100) (t 113) (.bool false) fun v114 => K (tset t 114 v114) h) := by kernel_rfl
theorem s9_97 : aStep Tryz.prog R9 97 K t h = (K (tset t 115 (t 114)) h) := by kernel_rfl
theorem s9_98 : aStep Tryz.prog R9 98 K t h = (o_guard (t 115) true (fun k => k (t 0) h) (fun v116 h => K (tset t 116 v116) h) h) := by kernel_rfl
theorem s9_99 : aStep Tryz.prog R9 99 K t h = (o_guard (t 115) true (fun k => o_nilCheck (t 116) fun v117 => k v117 h) (fun v117 h => K (tset t 117 v117) h) h) := by kernel_rfl
theorem s9_100 : aStep Tryz.prog R9 100 K t h = (o_guard (t 115) true (fun k => o_fieldAddr 164 (t 117) fun v118 => k v118 h) (fun v118 h => K (tset t 118 v118) h) h) := by kernel_rfl
theorem s9_101 : aStep Tryz.prog R9 101 K t h = (o_guard (t 115) true (fun k => o_load false 1 (t 118) h fun v119 => k v119 h) (fun v119 h => K (tset t 119 v119) h) h) := by kernel_rfl
theorem s9_102 : aStep Tryz.prog R9 102 K t h = (o_guard (t 115) true (fun k => o_call Tryz.prog 33 [(t 119), (.int .i64 2)] h fun v120 h => k v120 h) (fun v120 h => K (tset t 120 v120) h) h) := by kernel_rfl
theorem s9_103 : aStep Tryz.prog R9 103 K t h = (o_guard (t 115) true (fun k => o_bytesToString (t 120) h fun v121 => k v121 h) (fun v121 h => K (tset t 121 v121) h) h) := by kernel_rfl
theorem s9_104 : aStep Tryz.prog R9 104 K t h = (o_guard (t 115) true (fun k => k (t 1) h) (fun v122 h => K (tset t 122 v122) h) h) := by kernel_rfl
theorem s9_105 : aStep Tryz.prog R9 105 K t h = (o_guard (t 115) true (fun k => o_nilCheck (t 122) fun v123 => k v123 h) (fun v123 h => K (tset t 123 v123) h) h) := by kernel_rfl
theorem s9_106 : aStep Tryz.prog R9 106 K t h = (o_guard (t 115) true (fun k => o_fieldAddr 164 (t 123) fun v124 => k v124 h) (fun v124 h => K (tset t 124 v124) h) h) := by kernel_rfl
theorem s9_107 : aStep Tryz.prog R9 107 K t h = (o_guard (t 115) true (fun k => o_load false 1 (t 124) h fun v125 => k v125 h) (fun v125 h => K (tset t 125 v125) h) h) := by kernel_rfl
theorem s9_108 : aStep Tryz.prog R9 108 K t h = (o_guard (t 115) true (fun k => o_call Tryz.prog 34 [(t 125), (.int .i64 2)] h fun v126 h => k v126 h) (fun v126 h => K (tset t 126 v126) h) h) := by kernel_rfl
theorem s9_109 : aStep Tryz.prog R9 109 K t h = (o_guard (t 115) true (fun k => o_bytesToString (t 126) h fun v127 => k v127 h) (fun v127 h => K (tset t 127 v127) h) h) := by kernel_rfl
theorem s9_110 : aStep Tryz.prog R9 110 K t h = (o_guard (t 115) true (fun k => o_bin Tryz.prog .eql 9 (t 121) (t 127) fun v128 => k v128 h) (fun v128 h => K (tset t 128 v128) h) h) := by kernel_rfl
theorem s9_111 : aStep Tryz.prog R9 111 K t h = (o_pick (t 115) (t 128) (.bool false) fun v129 => K (tset t 129 v129) h) := by kernel_rfl
theorem s9_112 : aStep Tryz.prog R9 112 K t h = (K (tset t 130 (t 129)) h) := by kernel_rfl
theorem s9_113 : aStep Tryz.prog R9 113 K t h = (o_guard (t 130) true (fun k => k (t 5) h) (fun v131 h => K (tset t 131 v131) h) h) := by kernel_rfl
theorem s9_114 : aStep Tryz.prog R9 114 K t h = (o_guard (t 130) true (fun k => k (t 1) h) (fun v132 h => K (tset t 132 v132) h) h) := by kernel_rfl
theorem s9_115 : aStep Tryz.prog R9 115 K t h = (o_guard (t 130) true (fun k => o_nilCheck (t 132) fun v133 => k v133 h) (fun v133 h => K (tset t 133 v133) h) h) := by kernel_rfl
theorem s9_116 : aStep Tryz.prog R9 116 K t h = (o_guard (t 130) true (fun k => o_fieldAddr 164 (t 133) fun v134 => k v134 h) (fun v134 h => K (tset t 134 v134) h) h) := by kernel_rfl
theorem s9_117 : aStep Tryz.prog R9 117 K t h = (o_guard (t 130) true (fun k => o_load false 1 (t 134) h fun v135 => k v135 h) (fun v135 h => K (tset t 135 v135) h) h) := by kernel_rfl
theorem s9_118 : aStep Tryz.prog R9 118 K t h = (o_guard (t 130) true (fun k => o_nilCheck (t 135) fun v136 => k v136 h) (fun v136 h => K (tset t 136 v136) h) h) := by kernel_rfl
theorem s9_119 : aStep Tryz.prog R9 119 K t h = (o_guard (t 130) true (fun k => o_fieldAddr 0 (t 136) fun v137 => k v137 h) (fun v137 h => K (tset t 137 v137) h) h) := by kernel_rfl
theorem s9_120 : aStep Tryz.prog R9 120 K t h = (o_guard (t 130) true (fun k => o_load false 1 (t 137) h fun v138 => k v138 h) (fun v138 h => K (tset t 138 v138) h) h) := by kernel_rfl
theorem s9_121 : aStep Tryz.prog R9 121 K t h = (o_guard (t 130) true (fun k => o_nilCheck (t 138) fun v139 => k v139 h) (fun v139 h => K (tset t 139 v139) h) h) := by kernel_rfl
theorem s9_122 : aStep Tryz.prog R9 122 K t h = (o_guard (t 130) true (fun k => o_fieldAddr 6 (t 139) fun v140 => k v140 h) (fun v140 h => K (tset t 140 v140) h) h) := by kernel_rfl
theorem s9_123 : aStep Tryz.prog R9 123 K t h = (o_guard (t 130) true (fun k => o_load false 1 (t 140) h fun v141 => k v141 h) (fun v141 h => K (tset t 141 v141) h) h) := by kernel_rfl
theorem s9_124 : aStep Tryz.prog R9 124 K t h = (o_guard (t 130) true (fun k => o_bin Tryz.prog .eql 3 (t 131) (t 141) fun v142 => k v142 h) (fun v142 h => K (tset t 142 v142) h) h) := by kernel_rfl
theorem s9_125 : aStep Tryz.prog R9 125 K t h = (o_pick (t 130) (t 142) (.bool false) fun v143 => K (tset t 143 v143) h) := by kernel_rfl
theorem s9_126 : aStep Tryz.prog R9 126 K t h = (K (tset t 144 (t 143)) h) := by kernel_rfl
theorem s9_127 : aStep Tryz.prog R9 127 K t h = (o_guard (t 144) true (fun k => k (t 6) h) (fun v145 h => K (tset t 145 v145) h) h) := by kernel_rfl
theorem s9_128 : aStep Tryz.prog R9 128 K t h = (o_guard (t 144) true (fun k => k (t 1) h) (fun v146 h => K (tset t 146 v146) h) h) := by kernel_rfl
theorem s9_129 : aStep Tryz.prog R9 129 K t h = (o_guard (t 144) true (fun k => o_nilCheck (t 146) fun v147 => k v147 h) (fun v147 h => K (tset t 147 v147) h) h) := by kernel_rfl
theorem s9_130 : aStep Tryz.prog R9 130 K t h = (o_guard (t 144) true (fun k => o_fieldAddr 164 (t 147) fun v148 => k v148 h) (fun v148 h => K (tset t 148 v148) h) h) := by kernel_rfl
theorem s9_131 : aStep Tryz.prog R9 131 K t h = (o_guard (t 144) true (fun k => o_load false 1 (t 148) h fun v149 => k v149 h) (fun v149 h => K (tset t 149 v149) h) h) := by kernel_rfl
theorem s9_132 : aStep Tryz.prog R9 132 K t h = (o_guard (t 144) true (fun k => o_nilCheck (t 149) fun v150 => k v150 h) (fun v150 h => K (tset t 150 v150) h) h) := by kernel_rfl
theorem s9_133 : aStep Tryz.prog R9 133 K t h = (o_guard (t 144) true (fun k => o_fieldAddr 0 (t 150) fun v151 => k v151 h) (fun v151 h => K (tset t 151 v151) h) h) := by kernel_rfl
theorem s9_134 : aStep Tryz.prog R9 134 K t h = (o_guard (t 144) true (fun k => o_load false 1 (t 151) h fun v152 => k v152 h) (fun v152 h => K (tset t 152 v152) h) h) := by kernel_rfl
theorem s9_135 : aStep Tryz.prog R9 135 K t h = (o_guard (t 144) true (fun k => o_nilCheck (t 152) fun v153 => k v153 h) (fun v153 h => K (tset t 153 v153) h) h) := by kernel_rfl
theorem s9_136 : aStep Tryz.prog R9 136 K t h = (o_guard (t 144) true (fun k => o_fieldAddr 7 (t 153) fun v154 => k v154 h) (fun v154 h => K (tset t 154 v154) h) h) := by kernel_rfl
theorem s9_137 : aStep Tryz.prog R9 137 K t h = (o_guard (t 144) true (fun k => o_load false 1 (t 154) h fun v155 => k v155 h) (fun v155 h => K (tset t 155 v155) h) h) := by kernel_rfl
theorem s9_138 : aStep Tryz.prog R9 138 K t h = (o_guard (t 144) true (fun k => o_bin Tryz.prog .eql 3 (t 145) (t 155) fun v156 => k v156 h) (fun v156 h => K (tset t 156 v156) h) h) := by kernel_rfl
theorem s9_139 : aStep Tryz.prog R9 139 K t h = (o_pick (t 144) (t 156) (.bool false) fun v157 => K (tset t 157 v157) h) := by kernel_rfl
theorem s9_140 : aStep Tryz.prog R9 140 K t h = (K (tset t 158 (t 157)) h) := by kernel_rfl
theorem s9_141 : aStep Tryz.prog R9 141 K t h = (o_guard (t 158) true (fun k => k (t 7) h) (fun v159 h => K (tset t 159 v159) h) h) := by kernel_rfl
theorem s9_142 : aStep Tryz.prog R9 142 K t h = (o_guard (t 158) true (fun k => k (t 1) h) (fun v160 h => K (tset t 160 v160) h) h) := by kernel_rfl
theorem s9_143 : aStep Tryz.prog R9 143 K t h = (o_guard (t 158) true (fun k => o_nilCheck (t 160) fun v161 => k v161 h) (fun v161 h => K (tset t 161 v161) h) h) := by kernel_rfl
theorem s9_144 : aStep Tryz.prog R9 144 K t h = (o_guard (t 158) true (fun k => o_fieldAddr 164 (t 161) fun v162 => k v162 h) (fun v162 h => K (tset t 162 v162) h) h) := by kernel_rfl
theorem s9_145 : aStep Tryz.prog R9 145 K t h = (o_guard (t 158) true (fun k => o_load false 1 (t 162) h fun v163 => k v163 h) (fun v163 h => K (tset t 163 v163) h) h) := by kernel_rfl
theorem s9_146 : aStep Tryz.prog R9 146 K t h = (o_guard (t 158) true (fun k => o_nilCheck (t 163) fun v164 => k v164 h) (fun v164 h => K (tset t 164 v164) h) h) := by kernel_rfl
theorem s9_147 : aStep Tryz.prog R9 147 K t h = (o_guard (t 158) true (fun k => o_fieldAddr 0 (t 164) fun v165 => k v165 h) (fun v165 h => K (tset t 165 v165) h) h) := by kernel_rfl
theorem s9_148 : aStep Tryz.prog R9 148 K t h = (o_guard (t 158) true (fun k => o_load false 1 (t 165) h fun v166 => k v166 h) (fun v166 h => K (tset t 166 v166) h) h) := by kernel_rfl
theorem s9_149 : aStep Tryz.prog R9 149 K t h = (o_guard (t 158) true (fun k => o_nilCheck (t 166) fun v167 => k v167 h) (fun v167 h => K (tset t 167 v167) h) h) := by kernel_rfl
theorem s9_150 : aStep Tryz.prog R9 150 K t h = (o_guard (t 158) true (fun k => o_fieldAddr 8 (t 167) fun v168 => k v168 h) (fun v168 h => K (tset t 168 v168) h) h) := by kernel_rfl
theorem s9_151 : aStep Tryz.prog R9 151 K t h = (o_guard (t 158) true (fun k => o_load false 1 (t 168) h fun v169 => k v169 h) (fun v169 h => K (tset t 169 v169) h) h) := by kernel_rfl
theorem s9_152 : aStep Tryz.prog R9 152 K t h = (o_guard (t 158) true (fun k => o_bin Tryz.prog .eql 3 (t 159) (t 169) fun v170 => k v170 h) (fun v170 h => K (tset t 170 v170) h) h) := by kernel_rfl
theorem s9_153 : aStep Tryz.prog R9 153 K t h = (o_pick (t 158) (t 170) (.bool false) fun v171 => K (tset t 171 v171) h) := by kernel_rfl
theorem s9_154 : aStep Tryz.prog R9 154 K t h = (K (tset t 4 (t 171)) h) := by kernel_rfl
end
theorem dm {i j : Nat} (h : ((depL R9 i).any fun d => Nat.beq d j) = true) : j ∈ depL R9 i := by
  obtain ⟨d, hd, he⟩ := List.any_eq_true.1 h
  exact Nat.eq_of_beq_eq_true he ▸ hd
def V9 (m w q sh f mw sw fw uw : Nat) (s : List Value) (b22 b33 : Nat) : Nat → Value := fun i => if i = 4 then (pt b22 0) else if i = 15 then (pt b33 0) else match i with | 0 => (pt m 0) | 1 => (pt m 0) | 2 => (pt m 0) | 3 => (pt q 0) | 5 => (pt w 0) | 6 => (pt w 0) | 7 => (pt w 0) | 8 => (pt mw 0) | 9 => (.bool true) | 10 => (.bool true) | 11 => (pt m 0) | 12 => (pt m 0) | 13 => (pt m 1) | 14 => (pt sh 0) | 16 => (pt w 0) | 17 => (pt w 0) | 18 => (pt w 1) | 19 => (pt sw 0) | 20 => (.bool true) | 21 => (.bool true) | 22 => (.bool true) | 23 => (pt m 0) | 24 => (pt m 0) | 25 => (pt m 2) | 26 => (.agg s.toArray) | 27 => (.agg (s.set 0 (.int .u32 0)).toArray) | 28 => (pt w 0) | 29 => (pt w 0) | 30 => (pt w 2) | 31 => (.agg s.toArray) | 32 => (.agg (s.set 0 (.int .u32 0)).toArray) | 33 => (.bool true) | 34 => (.bool true) | 35 => (.bool true) | 36 => (pt m 0) | 37 => (pt m 0) | 38 => (pt m 36) | 39 => (.agg zT.toArray) | 40 => (.agg zT.toArray) | 41 => (.agg zT.toArray) | 42 => (pt w 0) | 43 => (pt w 0) | 44 => (pt w 36) | 45 => (.agg zT.toArray) | 46 => (.agg zT.toArray) | 47 => (.bool true) | 48 => (.bool true) | 49 => (.bool true) | 50 => (pt m 0) | 51 => (pt m 0) | 52 => (pt m 168) | 53 => (.int .u32 66048) | 54 => (pt w 0) | 55 => (pt w 0) | 56 => (pt w 168) | 57 => (.int .u32 66048) | 58 => (.bool true) | 59 => (.bool true) | 60 => (.bool true) | 61 => (pt m 0) | 62 => (pt m 0) | 63 => (pt m 169) | 64 => (.int .u32 66048) | 65 => (pt w 0) | 66 => (pt w 0) | 67 => (pt w 169) | 68 => (.int .u32 66048) | 69 => (.bool true) | 70 => (.bool true) | 71 => (.bool true) | 72 => (pt m 0) | 73 => (pt m 0) | 74 => (pt m 170) | 75 => (.slice none 0 0) | 76 => (pt w 0) | 77 => (pt w 0) | 78 => (pt w 170) | 79 => (.slice none 0 0) | 80 => (.bool true) | 81 => (.bool true) | 82 => (.bool true) | 83 => (pt m 0) | 84 => (pt m 0) | 85 => (pt m 164) | 86 => (pt f 0) | 87 => (.slice none 0 0) | 88 => (.string .empty) | 89 => (pt w 0) | 90 => (pt w 0) | 91 => (pt w 164) | 92 => (pt fw 0) | 93 => (.slice none 0 0) | 94 => (.string .empty) | 95 => (.bool true) | 96 => (.bool true) | 97 => (.bool true) | 98 => (pt m 0) | 99 => (pt m 0) | 100 => (pt m 164) | 101 => (pt f 0) | 102 => (.slice none 0 0) | 103 => (.string .empty) | 104 => (pt w 0) | 105 => (pt w 0) | 106 => (pt w 164) | 107 => (pt fw 0) | 108 => (.slice none 0 0) | 109 => (.string .empty) | 110 => (.bool true) | 111 => (.bool true) | 112 => (.bool true) | 113 => (.int .i64 0) | 114 => (pt w 0) | 115 => (pt w 0) | 116 => (pt w 164) | 117 => (pt fw 0) | 118 => (pt fw 0) | 119 => (pt fw 0) | 120 => (pt uw 0) | 121 => (pt uw 0) | 122 => (pt uw 6) | 123 => (.int .i64 0) | 124 => (.bool true) | 125 => (.bool true) | 126 => (.bool true) | 127 => (.int .i64 0) | 128 => (pt w 0) | 129 => (pt w 0) | 130 => (pt w 164) | 131 => (pt fw 0) | 132 => (pt fw 0) | 133 => (pt fw 0) | 134 => (pt uw 0) | 135 => (pt uw 0) | 136 => (pt uw 7) | 137 => (.int .i64 0) | 138 => (.bool true) | 139 => (.bool true) | 140 => (.bool true) | 141 => (.int .i64 0) | 142 => (pt w 0) | 143 => (pt w 0) | 144 => (pt w 164) | 145 => (pt fw 0) | 146 => (pt fw 0) | 147 => (pt fw 0) | 148 => (pt uw 0) | 149 => (pt uw 0) | 150 => (pt uw 8) | 151 => (.int .i64 0) | 152 => (.bool true) | 153 => (.bool true) | 154 => (.bool true) | _ => undef
def tab9 : List (Nat × Nat) := [(0, 18), (1, 19), (2, 20), (3, 21), (4, 22), (5, 23), (6, 24), (7, 25), (8, 26), (9, 27), (10, 28), (11, 29), (12, 30), (13, 31), (14, 32), (15, 33), (16, 34), (17, 35), (18, 36), (19, 37), (20, 38), (21, 39), (22, 40), (23, 41), (24, 42), (25, 43), (26, 44), (27, 45), (28, 46), (29, 47), (30, 48), (31, 49), (32, 50), (33, 51), (34, 52), (35, 53), (36, 54), (37, 55), (38, 56), (39, 57), (40, 58), (41, 59), (42, 60), (43, 61), (44, 62), (45, 63), (46, 64), (47, 65), (48, 66), (49, 67), (50, 68), (51, 69), (52, 70), (53, 71), (54, 72), (55, 73), (56, 74), (57, 75), (58, 76), (59, 77), (60, 78), (61, 79), (62, 80), (63, 81), (64, 82), (65, 83), (66, 84), (67, 85), (68, 86), (69, 87), (70, 88), (71, 89), (72, 90), (73, 91), (74, 92), (75, 93), (76, 94), (77, 95), (78, 96), (79, 97), (80, 98), (81, 99), (82, 100), (83, 101), (84, 102), (85, 103), (86, 104), (87, 105), (88, 106), (89, 107), (90, 108), (91, 109), (92, 110), (93, 111), (94, 112), (95, 113), (96, 114), (97, 115), (98, 116), (99, 117), (100, 118), (101, 119), (102, 120), (103, 121), (104, 122), (105, 123), (106, 124), (107, 125), (108, 126), (109, 127), (110, 128), (111, 129), (112, 130), (113, 131), (114, 132), (115, 133), (116, 134), (117, 135), (118, 136), (119, 137), (120, 138), (121, 139), (122, 140), (123, 141), (124, 142), (125, 143), (126, 144), (127, 145), (128, 146), (129, 147), (130, 148), (131, 149), (132, 150), (133, 151), (134, 152), (135, 153), (136, 154), (137, 155), (138, 156), (139, 157), (140, 158), (141, 159), (142, 160), (143, 161), (144, 162), (145, 163), (146, 164), (147, 165), (148, 166), (149, 167), (150, 168), (151, 169), (152, 170), (153, 171), (154, 4)]
def ps9 (m w : Nat) : List (Nat × Value) := [(0, (pt m 0)), (1, (pt w 0)), (5, (.int .i64 0)), (6, (.int .i64 0)), (7, (.int .i64 0))]
structure SI9 (F : H) (ρ : Ren) (m w q sh f mw sw fw uw : Nat) (s : List Value) (l : Array Bool) (t : T) (h : H) : Prop where
  x : Cx F ρ h
  ex : ∃ b22 b33, Tb (ps9 m w) tab9 (V9 m w q sh f mw sw fw uw s b22 b33) l t ∧ (l.getD 4 false = true → l.getD 9 false = false → SMp mw b22 h) ∧ (l.getD 15 false = true → l.getD 20 false = false → SSp F ρ sw b33 h)
theorem SI9.go {F : H} {ρ : Ren} {m w q sh f mw sw fw uw : Nat} {s : List Value} {l : Array Bool} {t : T} {h : H} (hx : Cx F ρ h) {b22 b33 : Nat} (hT : Tb (ps9 m w) tab9 (V9 m w q sh f mw sw fw uw s b22 b33) l t) (g1 : l.getD 4 false = true → l.getD 9 false = false → SMp mw b22 h) (g2 : l.getD 15 false = true → l.getD 20 false = false → SSp F ρ sw b33 h)
    (i d : Nat) (ho : okTab (ps9 m w) tab9 i d = true) (hn : (!Nat.beq i 4 && (!Nat.beq i 9 && (!Nat.beq i 15 && !Nat.beq i 20))) = true) : SI9 F ρ m w q sh f mw sw fw uw s (l.setIfInBounds i true) (tset t d (V9 m w q sh f mw sw fw uw s b22 b33 i)) h :=
  by
  simp only [Bool.and_eq_true] at hn
  exact ⟨hx, b22, b33, hT.set i d ho, by rw [get_ne (ne_of hn.1), get_ne (ne_of hn.2.1)]; exact g1, by rw [get_ne (ne_of hn.2.2.1), get_ne (ne_of hn.2.2.2)]; exact g2⟩
theorem SI9.go2 {F : H} {ρ : Ren} {m w q sh f mw sw fw uw : Nat} {s : List Value} {l : Array Bool} {t : T} {h : H} (hx : Cx F ρ h) {b22 b33 : Nat} (hT : Tb (ps9 m w) tab9 (V9 m w q sh f mw sw fw uw s b22 b33) l t) (k9 : l.getD 9 false = true) (k20 : l.getD 20 false = true)
    (i d : Nat) (ho : okTab (ps9 m w) tab9 i d = true) (n9 : i ≠ 9) (n20 : i ≠ 20) : SI9 F ρ m w q sh f mw sw fw uw s (l.setIfInBounds i true) (tset t d (V9 m w q sh f mw sw fw uw s b22 b33 i)) h :=
  ⟨hx, b22, b33, hT.set i d ho, fun _ hq => (by rw [get_ne n9, k9] at hq; cases hq), fun _ hq => (by rw [get_ne n20, k20] at hq; cases hq)⟩
theorem b2s {h : H} {K : Value → Prop} : o_bytesToString (.slice none 0 0) h K = K (.string .empty) := by kernel_rfl
theorem eq_str {K : Value → Prop} : o_bin Tryz.prog .eql 9 (.string .empty) (.string .empty) K = K (.bool true) := by kernel_rfl
def F9_2 (x0 x1 x5 x6 x7 : Value) (h : H) (Kn : Value → H → Prop) (Kr : Value → H → Prop) : Prop :=
  ∃ (F : H) (ρ : Ren) (m w q sh f mw sw fw uw : Nat) (s : List Value), x0 = (pt m 0) ∧ x1 = (pt w 0) ∧ x5 = .int .i64 0 ∧ x6 = .int .i64 0 ∧ x7 = .int .i64 0 ∧ SCx F ρ m w q sh f mw sw fw uw s ∧ Cx F ρ h ∧ ∀ h', Kn (.bool true) h'
theorem F9_2_ok (Kn Kr) (t : T) (h : H) (H0 : F9_2 (t 0) (t 1) (t 5) (t 6) (t 7) h Kn Kr) : Wp Tryz.prog 172 (seqL (rest 2 (bodyOf Tryz.f9.body))) (mkQ (kq1 Kn 4) (kq1 Kr 4) ke0) t h := by
  obtain ⟨F, ρ, m, w, q, sh, f, mw, sw, fw, uw, s, e0, e1, e5, e6, e7, X, hx0, hk0⟩ := H0
  refine draw_any (by kernel_rfl) A9_back (SI9 F ρ m w q sh f mw sw fw uw s) ⟨hx0, 0, 0, Tb.none (by simp [ps9, *]), fun hq => by simp [Array.getD] at hq, fun hq => by simp [Array.getD] at hq⟩ ?_ ?_
  · intro l t' h' i hl hr hc hI
    obtain ⟨hi, hun0, hd⟩ := ready_deps hl hr
    have hil : i < l.size := by omega
    have hun : l.getD i false = false := by simpa [Array.getD, hil] using hun0
    obtain ⟨hx, b22, b33, hT, g1, g2⟩ := hI
    have p0 : t' 0 = (pt m 0) := hT.p (0, (pt m 0)) (by simp [ps9])
    have p1 : t' 1 = (pt w 0) := hT.p (1, (pt w 0)) (by simp [ps9])
    have p5 : t' 5 = (.int .i64 0) := hT.p (5, (.int .i64 0)) (by simp [ps9])
    have p6 : t' 6 = (.int .i64 0) := hT.p (6, (.int .i64 0)) (by simp [ps9])
    have p7 : t' 7 = (.int .i64 0) := hT.p (7, (.int .i64 0)) (by simp [ps9])
    rw [A9_size] at hi
    have ev : ∀ j d, tab9[j]? = some (j, d) → l.getD j false = true → t' d = V9 m w q sh f mw sw fw uw s b22 b33 j := fun j d h1 h2 => hT.v (j, d) (List.mem_of_getElem? h1) h2
    have go := SI9.go hx hT g1 g2
    have c9 : l.getD 10 false = true → l.getD 9 false = true := fun h => hc 10 h 9 (dm (by kernel_rfl))
    have c10 : l.getD 22 false = true → l.getD 10 false = true := fun h => hc 21 (hc 22 h 21 (dm (by kernel_rfl))) 10 (dm (by kernel_rfl))
    have c20_22 : l.getD 22 false = true → l.getD 20 false = true := fun h => hc 21 (hc 22 h 21 (dm (by kernel_rfl))) 20 (dm (by kernel_rfl))
    have b35 : l.getD 35 false = true → l.getD 22 false = true := fun h => hc 34 (hc 35 h 34 (dm (by kernel_rfl))) 22 (dm (by kernel_rfl))
    have b49 : l.getD 49 false = true → l.getD 35 false = true := fun h => hc 48 (hc 49 h 48 (dm (by kernel_rfl))) 35 (dm (by kernel_rfl))
    have b60 : l.getD 60 false = true → l.getD 49 false = true := fun h => hc 59 (hc 60 h 59 (dm (by kernel_rfl))) 49 (dm (by kernel_rfl))
    have b71 : l.getD 71 false = true → l.getD 60 false = true := fun h => hc 70 (hc 71 h 70 (dm (by kernel_rfl))) 60 (dm (by kernel_rfl))
    have b82 : l.getD 82 false = true → l.getD 71 false = true := fun h => hc 81 (hc 82 h 81 (dm (by kernel_rfl))) 71 (dm (by kernel_rfl))
    have b97 : l.getD 97 false = true → l.getD 82 false = true := fun h => hc 96 (hc 97 h 96 (dm (by kernel_rfl))) 82 (dm (by kernel_rfl))
    have b112 : l.getD 112 false = true → l.getD 97 false = true := fun h => hc 111 (hc 112 h 111 (dm (by kernel_rfl))) 97 (dm (by kernel_rfl))
    have b126 : l.getD 126 false = true → l.getD 112 false = true := fun h => hc 125 (hc 126 h 125 (dm (by kernel_rfl))) 112 (dm (by kernel_rfl))
    have b140 : l.getD 140 false = true → l.getD 126 false = true := fun h => hc 139 (hc 140 h 139 (dm (by kernel_rfl))) 126 (dm (by kernel_rfl))
    match i, hi with
    | 0, _ =>
      rw [s9_0, p0]
      exact go 0 18 (by kernel_rfl) rfl
    | 1, _ =>
      have e18 : t' 18 = (pt m 0) := ev 0 18 rfl (hd 0 (dm (by kernel_rfl)))
      rw [s9_1, e18, nil_ptr]
      exact go 1 19 (by kernel_rfl) rfl
    | 2, _ =>
      have e19 : t' 19 = (pt m 0) := ev 1 19 rfl (hd 1 (dm (by kernel_rfl)))
      rw [s9_2, e19, field_addr]
      exact go 2 20 (by kernel_rfl) rfl
    | 3, _ =>
      have e20 : t' 20 = (pt m 0) := ev 2 20 rfl (hd 2 (dm (by kernel_rfl)))
      rw [s9_3, e20, load_cell (Sub.cellAt hx.fr X.m0)]
      exact go 3 21 (by kernel_rfl) rfl
    | 4, _ =>
      have e21 : t' 21 = (pt q 0) := ev 3 21 rfl (hd 3 (dm (by kernel_rfl)))
      rw [s9_4, e21]
      obtain ⟨_, r62⟩ := X.r62
      obtain ⟨_, r122⟩ := X.r122
      refine ⟨rfl, mem_spec hx r62 r122 fun b hh hx' hS => ⟨hx', b, b33, (hT.change (vals' := V9 m w q sh f mw sw fw uw s b b33) 4 hun fun j hj => ?_).set 4 22 (by kernel_rfl), fun _ _ => hS, fun hq _ => ?_⟩⟩
      · unfold V9; rw [if_neg hj, if_neg hj]
      · exfalso
        rw [get_ne (by decide)] at hq
        have h10 := hc 15 hq 10 (dm (by kernel_rfl))
        have := hc 9 (c9 h10) 4 (dm (by kernel_rfl))
        rw [hun] at this; cases this
    | 5, _ =>
      rw [s9_5, p1]
      exact go 5 23 (by kernel_rfl) rfl
    | 6, _ =>
      have e23 : t' 23 = (pt w 0) := ev 5 23 rfl (hd 5 (dm (by kernel_rfl)))
      rw [s9_6, e23, nil_ptr]
      exact go 6 24 (by kernel_rfl) rfl
    | 7, _ =>
      have e24 : t' 24 = (pt w 0) := ev 6 24 rfl (hd 6 (dm (by kernel_rfl)))
      rw [s9_7, e24, field_addr]
      exact go 7 25 (by kernel_rfl) rfl
    | 8, _ =>
      have e25 : t' 25 = (pt w 0) := ev 7 25 rfl (hd 7 (dm (by kernel_rfl)))
      rw [s9_8, e25, load_cell (Sub.cellAt hx.fr X.w0)]
      exact go 8 26 (by kernel_rfl) rfl
    | 9, _ =>
      have e22 : t' 22 = (pt b22 0) := ev 4 22 rfl (hd 4 (dm (by kernel_rfl)))
      have e26 : t' 26 = (pt mw 0) := ev 8 26 rfl (hd 8 (dm (by kernel_rfl)))
      rw [s9_9, e22, e26]
      refine ⟨rfl, g1 (hd 4 (dm (by kernel_rfl))) hun _ ?_⟩
      exact ⟨hx, b22, b33, hT.set 9 27 (by kernel_rfl), fun _ hq => (by rw [getD_setR, if_pos ⟨rfl, by omega⟩] at hq; cases hq), by rw [get_ne (by decide), get_ne (by decide)]; exact g2⟩
    | 10, _ =>
      have e27 : t' 27 = (.bool true) := ev 9 27 rfl (hd 9 (dm (by kernel_rfl)))
      rw [s9_10, e27]
      exact go 10 28 (by kernel_rfl) rfl
    | 11, _ =>
      have e28 : t' 28 = (.bool true) := ev 10 28 rfl (hd 10 (dm (by kernel_rfl)))
      rw [s9_11, p0, e28, guard_tt]
      exact go 11 29 (by kernel_rfl) rfl
    | 12, _ =>
      have e28 : t' 28 = (.bool true) := ev 10 28 rfl (hd 10 (dm (by kernel_rfl)))
      have e29 : t' 29 = (pt m 0) := ev 11 29 rfl (hd 11 (dm (by kernel_rfl)))
      rw [s9_12, e28, e29, guard_tt, nil_ptr]
      exact go 12 30 (by kernel_rfl) rfl
    | 13, _ =>
      have e28 : t' 28 = (.bool true) := ev 10 28 rfl (hd 10 (dm (by kernel_rfl)))
      have e30 : t' 30 = (pt m 0) := ev 12 30 rfl (hd 12 (dm (by kernel_rfl)))
      rw [s9_13, e28, e30, guard_tt, field_addr]
      exact go 13 31 (by kernel_rfl) rfl
    | 14, _ =>
      have e28 : t' 28 = (.bool true) := ev 10 28 rfl (hd 10 (dm (by kernel_rfl)))
      have e31 : t' 31 = (pt m 1) := ev 13 31 rfl (hd 13 (dm (by kernel_rfl)))
      rw [s9_14, e28, e31, guard_tt, load_cell (Sub.cellAt hx.fr X.m1)]
      exact go 14 32 (by kernel_rfl) rfl
    | 15, _ =>
      have e28 : t' 28 = (.bool true) := ev 10 28 rfl (hd 10 (dm (by kernel_rfl)))
      have e32 : t' 32 = (pt sh 0) := ev 14 32 rfl (hd 14 (dm (by kernel_rfl)))
      rw [s9_15, e28, e32]
      rw [guard_tt]
      have k9 := c9 (hd 10 (dm (by kernel_rfl)))
      obtain ⟨_, r64⟩ := X.r64
      obtain ⟨_, r123⟩ := X.r123
      refine ⟨rfl, shadow_spec hx r64 r123 fun b hh hx' hS => ⟨hx', b22, b, (hT.change (vals' := V9 m w q sh f mw sw fw uw s b22 b) 15 hun fun j hj => ?_).set 15 33 (by kernel_rfl), fun _ hq => ?_, fun _ _ => hS⟩⟩
      · unfold V9; rw [if_neg hj, if_neg hj]
      · rw [get_ne (by decide), k9] at hq; cases hq
    | 16, _ =>
      have e28 : t' 28 = (.bool true) := ev 10 28 rfl (hd 10 (dm (by kernel_rfl)))
      rw [s9_16, p1, e28, guard_tt]
      exact go 16 34 (by kernel_rfl) rfl
    | 17, _ =>
      have e28 : t' 28 = (.bool true) := ev 10 28 rfl (hd 10 (dm (by kernel_rfl)))
      have e34 : t' 34 = (pt w 0) := ev 16 34 rfl (hd 16 (dm (by kernel_rfl)))
      rw [s9_17, e28, e34, guard_tt, nil_ptr]
      exact go 17 35 (by kernel_rfl) rfl
    | 18, _ =>
      have e28 : t' 28 = (.bool true) := ev 10 28 rfl (hd 10 (dm (by kernel_rfl)))
      have e35 : t' 35 = (pt w 0) := ev 17 35 rfl (hd 17 (dm (by kernel_rfl)))
      rw [s9_18, e28, e35, guard_tt, field_addr]
      exact go 18 36 (by kernel_rfl) rfl
    | 19, _ =>
      have e28 : t' 28 = (.bool true) := ev 10 28 rfl (hd 10 (dm (by kernel_rfl)))
      have e36 : t' 36 = (pt w 1) := ev 18 36 rfl (hd 18 (dm (by kernel_rfl)))
      rw [s9_19, e28, e36, guard_tt, load_cell (Sub.cellAt hx.fr X.w1)]
      exact go 19 37 (by kernel_rfl) rfl
    | 20, _ =>
      have e28 : t' 28 = (.bool true) := ev 10 28 rfl (hd 10 (dm (by kernel_rfl)))
      have e33 : t' 33 = (pt b33 0) := ev 15 33 rfl (hd 15 (dm (by kernel_rfl)))
      have e37 : t' 37 = (pt sw 0) := ev 19 37 rfl (hd 19 (dm (by kernel_rfl)))
      rw [s9_20, e28, e33, e37]
      rw [guard_tt]
      have k9 := c9 (hd 10 (dm (by kernel_rfl)))
      refine ⟨rfl, g2 (hd 15 (dm (by kernel_rfl))) hun _ fun hh hx' => ?_⟩
      exact ⟨hx', b22, b33, hT.set 20 38 (by kernel_rfl), fun _ hq => (by rw [get_ne (by decide), k9] at hq; cases hq), fun _ hq => (by rw [getD_setR, if_pos ⟨rfl, by omega⟩] at hq; cases hq)⟩
    | 21, _ =>
      have e28 : t' 28 = (.bool true) := ev 10 28 rfl (hd 10 (dm (by kernel_rfl)))
      have e38 : t' 38 = (.bool true) := ev 20 38 rfl (hd 20 (dm (by kernel_rfl)))
      rw [s9_21, e28, e38, pick_true]
      exact go 21 39 (by kernel_rfl) rfl
    | 22, _ =>
      have e39 : t' 39 = (.bool true) := ev 21 39 rfl (hd 21 (dm (by kernel_rfl)))
      rw [s9_22, e39]
      exact go 22 40 (by kernel_rfl) rfl
    | 23, _ =>
      have e40 : t' 40 = (.bool true) := ev 22 40 rfl (hd 22 (dm (by kernel_rfl)))
      rw [s9_23, p0, e40, guard_tt]
      exact go 23 41 (by kernel_rfl) rfl
    | 24, _ =>
      have e40 : t' 40 = (.bool true) := ev 22 40 rfl (hd 22 (dm (by kernel_rfl)))
      have e41 : t' 41 = (pt m 0) := ev 23 41 rfl (hd 23 (dm (by kernel_rfl)))
      rw [s9_24, e40, e41, guard_tt, nil_ptr]
      exact go 24 42 (by kernel_rfl) rfl
    | 25, _ =>
      have e40 : t' 40 = (.bool true) := ev 22 40 rfl (hd 22 (dm (by kernel_rfl)))
      have e42 : t' 42 = (pt m 0) := ev 24 42 rfl (hd 24 (dm (by kernel_rfl)))
      rw [s9_25, e40, e42, guard_tt, field_addr]
      exact go 25 43 (by kernel_rfl) rfl
    | 26, _ =>
      have e40 : t' 40 = (.bool true) := ev 22 40 rfl (hd 22 (dm (by kernel_rfl)))
      have e43 : t' 43 = (pt m 2) := ev 25 43 rfl (hd 25 (dm (by kernel_rfl)))
      rw [s9_26, e40, e43, guard_tt, load_agg (Sub.cellsAt hx.fr X.m2)]
      exact go 26 44 (by kernel_rfl) rfl
    | 27, _ =>
      have e40 : t' 40 = (.bool true) := ev 22 40 rfl (hd 22 (dm (by kernel_rfl)))
      have e44 : t' 44 = (.agg s.toArray) := ev 26 44 rfl (hd 26 (dm (by kernel_rfl)))
      rw [s9_27, e40, e44]
      rw [guard_tt]
      have kg : l.getD 22 false = true := hd 22 (dm (by kernel_rfl))
      have k20 := c20_22 kg
      have k9 := c9 (c10 kg)
      refine ⟨rfl, zero_spec X.st.len ?_⟩
      exact SI9.go2 hx hT k9 k20 27 45 (by kernel_rfl) (by decide) (by decide)
    | 28, _ =>
      have e40 : t' 40 = (.bool true) := ev 22 40 rfl (hd 22 (dm (by kernel_rfl)))
      rw [s9_28, p1, e40, guard_tt]
      exact go 28 46 (by kernel_rfl) rfl
    | 29, _ =>
      have e40 : t' 40 = (.bool true) := ev 22 40 rfl (hd 22 (dm (by kernel_rfl)))
      have e46 : t' 46 = (pt w 0) := ev 28 46 rfl (hd 28 (dm (by kernel_rfl)))
      rw [s9_29, e40, e46, guard_tt, nil_ptr]
      exact go 29 47 (by kernel_rfl) rfl
    | 30, _ =>
      have e40 : t' 40 = (.bool true) := ev 22 40 rfl (hd 22 (dm (by kernel_rfl)))
      have e47 : t' 47 = (pt w 0) := ev 29 47 rfl (hd 29 (dm (by kernel_rfl)))
      rw [s9_30, e40, e47, guard_tt, field_addr]
      exact go 30 48 (by kernel_rfl) rfl
    | 31, _ =>
      have e40 : t' 40 = (.bool true) := ev 22 40 rfl (hd 22 (dm (by kernel_rfl)))
      have e48 : t' 48 = (pt w 2) := ev 30 48 rfl (hd 30 (dm (by kernel_rfl)))
      rw [s9_31, e40, e48, guard_tt, load_agg (Sub.cellsAt hx.fr X.w2)]
      exact go 31 49 (by kernel_rfl) rfl
    | 32, _ =>
      have e40 : t' 40 = (.bool true) := ev 22 40 rfl (hd 22 (dm (by kernel_rfl)))
      have e49 : t' 49 = (.agg s.toArray) := ev 31 49 rfl (hd 31 (dm (by kernel_rfl)))
      rw [s9_32, e40, e49]
      rw [guard_tt]
      have kg : l.getD 22 false = true := hd 22 (dm (by kernel_rfl))
      have k20 := c20_22 kg
      have k9 := c9 (c10 kg)
      refine ⟨rfl, zero_spec X.st.len ?_⟩
      exact SI9.go2 hx hT k9 k20 32 50 (by kernel_rfl) (by decide) (by decide)
    | 33, _ =>
      have e40 : t' 40 = (.bool true) := ev 22 40 rfl (hd 22 (dm (by kernel_rfl)))
      have e45 : t' 45 = (.agg (s.set 0 (.int .u32 0)).toArray) := ev 27 45 rfl (hd 27 (dm (by kernel_rfl)))
      have e50 : t' 50 = (.agg (s.set 0 (.int .u32 0)).toArray) := ev 32 50 rfl (hd 32 (dm (by kernel_rfl)))
      rw [s9_33, e40, e45, e50]
      rw [guard_tt]
      rw [eq_state X.st.set]
      exact go 33 51 (by kernel_rfl) rfl
    | 34, _ =>
      have e40 : t' 40 = (.bool true) := ev 22 40 rfl (hd 22 (dm (by kernel_rfl)))
      have e51 : t' 51 = (.bool true) := ev 33 51 rfl (hd 33 (dm (by kernel_rfl)))
      rw [s9_34, e40, e51, pick_true]
      exact go 34 52 (by kernel_rfl) rfl
    | 35, _ =>
      have e52 : t' 52 = (.bool true) := ev 34 52 rfl (hd 34 (dm (by kernel_rfl)))
      rw [s9_35, e52]
      exact go 35 53 (by kernel_rfl) rfl
    | 36, _ =>
      have e53 : t' 53 = (.bool true) := ev 35 53 rfl (hd 35 (dm (by kernel_rfl)))
      rw [s9_36, p0, e53, guard_tt]
      exact go 36 54 (by kernel_rfl) rfl
    | 37, _ =>
      have e53 : t' 53 = (.bool true) := ev 35 53 rfl (hd 35 (dm (by kernel_rfl)))
      have e54 : t' 54 = (pt m 0) := ev 36 54 rfl (hd 36 (dm (by kernel_rfl)))
      rw [s9_37, e53, e54, guard_tt, nil_ptr]
      exact go 37 55 (by kernel_rfl) rfl
    | 38, _ =>
      have e53 : t' 53 = (.bool true) := ev 35 53 rfl (hd 35 (dm (by kernel_rfl)))
      have e55 : t' 55 = (pt m 0) := ev 37 55 rfl (hd 37 (dm (by kernel_rfl)))
      rw [s9_38, e53, e55, guard_tt, field_addr]
      exact go 38 56 (by kernel_rfl) rfl
    | 39, _ =>
      have e53 : t' 53 = (.bool true) := ev 35 53 rfl (hd 35 (dm (by kernel_rfl)))
      have e56 : t' 56 = (pt m 36) := ev 38 56 rfl (hd 38 (dm (by kernel_rfl)))
      rw [s9_39, e53, e56, guard_tt, load_agg (Sub.cellsAt hx.fr X.m36)]
      exact go 39 57 (by kernel_rfl) rfl
    | 40, _ =>
      have e53 : t' 53 = (.bool true) := ev 35 53 rfl (hd 35 (dm (by kernel_rfl)))
      have e57 : t' 57 = (.agg zT.toArray) := ev 39 57 rfl (hd 39 (dm (by kernel_rfl)))
      rw [s9_40, e53, e57]
      rw [guard_tt]
      have kg : l.getD 35 false = true := hd 35 (dm (by kernel_rfl))
      have k20 := c20_22 (b35 kg)
      have k9 := c9 (c10 (b35 kg))
      refine ⟨rfl, lbl_spec ?_⟩
      exact SI9.go2 hx hT k9 k20 40 58 (by kernel_rfl) (by decide) (by decide)
    | 41, _ =>
      have e53 : t' 53 = (.bool true) := ev 35 53 rfl (hd 35 (dm (by kernel_rfl)))
      have e58 : t' 58 = (.agg zT.toArray) := ev 40 58 rfl (hd 40 (dm (by kernel_rfl)))
      rw [s9_41, e53, e58]
      rw [guard_tt]
      have kg : l.getD 35 false = true := hd 35 (dm (by kernel_rfl))
      have k20 := c20_22 (b35 kg)
      have k9 := c9 (c10 (b35 kg))
      refine ⟨rfl, zeroTag_spec ?_⟩
      exact SI9.go2 hx hT k9 k20 41 59 (by kernel_rfl) (by decide) (by decide)
    | 42, _ =>
      have e53 : t' 53 = (.bool true) := ev 35 53 rfl (hd 35 (dm (by kernel_rfl)))
      rw [s9_42, p1, e53, guard_tt]
      exact go 42 60 (by kernel_rfl) rfl
    | 43, _ =>
      have e53 : t' 53 = (.bool true) := ev 35 53 rfl (hd 35 (dm (by kernel_rfl)))
      have e60 : t' 60 = (pt w 0) := ev 42 60 rfl (hd 42 (dm (by kernel_rfl)))
      rw [s9_43, e53, e60, guard_tt, nil_ptr]
      exact go 43 61 (by kernel_rfl) rfl
    | 44, _ =>
      have e53 : t' 53 = (.bool true) := ev 35 53 rfl (hd 35 (dm (by kernel_rfl)))
      have e61 : t' 61 = (pt w 0) := ev 43 61 rfl (hd 43 (dm (by kernel_rfl)))
      rw [s9_44, e53, e61, guard_tt, field_addr]
      exact go 44 62 (by kernel_rfl) rfl
    | 45, _ =>
      have e53 : t' 53 = (.bool true) := ev 35 53 rfl (hd 35 (dm (by kernel_rfl)))
      have e62 : t' 62 = (pt w 36) := ev 44 62 rfl (hd 44 (dm (by kernel_rfl)))
      rw [s9_45, e53, e62, guard_tt, load_agg (Sub.cellsAt hx.fr X.w36)]
      exact go 45 63 (by kernel_rfl) rfl
    | 46, _ =>
      have e53 : t' 53 = (.bool true) := ev 35 53 rfl (hd 35 (dm (by kernel_rfl)))
      have e63 : t' 63 = (.agg zT.toArray) := ev 45 63 rfl (hd 45 (dm (by kernel_rfl)))
      rw [s9_46, e53, e63]
      rw [guard_tt]
      have kg : l.getD 35 false = true := hd 35 (dm (by kernel_rfl))
      have k20 := c20_22 (b35 kg)
      have k9 := c9 (c10 (b35 kg))
      refine ⟨rfl, zeroTag_spec ?_⟩
      exact SI9.go2 hx hT k9 k20 46 64 (by kernel_rfl) (by decide) (by decide)
    | 47, _ =>
      have e53 : t' 53 = (.bool true) := ev 35 53 rfl (hd 35 (dm (by kernel_rfl)))
      have e59 : t' 59 = (.agg zT.toArray) := ev 41 59 rfl (hd 41 (dm (by kernel_rfl)))
      have e64 : t' 64 = (.agg zT.toArray) := ev 46 64 rfl (hd 46 (dm (by kernel_rfl)))
      rw [s9_47, e53, e59, e64]
      rw [guard_tt]
      rw [eq_tags]
      exact go 47 65 (by kernel_rfl) rfl
    | 48, _ =>
      have e53 : t' 53 = (.bool true) := ev 35 53 rfl (hd 35 (dm (by kernel_rfl)))
      have e65 : t' 65 = (.bool true) := ev 47 65 rfl (hd 47 (dm (by kernel_rfl)))
      rw [s9_48, e53, e65, pick_true]
      exact go 48 66 (by kernel_rfl) rfl
    | 49, _ =>
      have e66 : t' 66 = (.bool true) := ev 48 66 rfl (hd 48 (dm (by kernel_rfl)))
      rw [s9_49, e66]
      exact go 49 67 (by kernel_rfl) rfl
    | 50, _ =>
      have e67 : t' 67 = (.bool true) := ev 49 67 rfl (hd 49 (dm (by kernel_rfl)))
      rw [s9_50, p0, e67, guard_tt]
      exact go 50 68 (by kernel_rfl) rfl
    | 51, _ =>
      have e67 : t' 67 = (.bool true) := ev 49 67 rfl (hd 49 (dm (by kernel_rfl)))
      have e68 : t' 68 = (pt m 0) := ev 50 68 rfl (hd 50 (dm (by kernel_rfl)))
      rw [s9_51, e67, e68, guard_tt, nil_ptr]
      exact go 51 69 (by kernel_rfl) rfl
    | 52, _ =>
      have e67 : t' 67 = (.bool true) := ev 49 67 rfl (hd 49 (dm (by kernel_rfl)))
      have e69 : t' 69 = (pt m 0) := ev 51 69 rfl (hd 51 (dm (by kernel_rfl)))
      rw [s9_52, e67, e69, guard_tt, field_addr]
      exact go 52 70 (by kernel_rfl) rfl
    | 53, _ =>
      have e67 : t' 67 = (.bool true) := ev 49 67 rfl (hd 49 (dm (by kernel_rfl)))
      have e70 : t' 70 = (pt m 168) := ev 52 70 rfl (hd 52 (dm (by kernel_rfl)))
      rw [s9_53, e67, e70, guard_tt, load_cell (Sub.cellAt hx.fr X.m168)]
      exact go 53 71 (by kernel_rfl) rfl
    | 54, _ =>
      have e67 : t' 67 = (.bool true) := ev 49 67 rfl (hd 49 (dm (by kernel_rfl)))
      rw [s9_54, p1, e67, guard_tt]
      exact go 54 72 (by kernel_rfl) rfl
    | 55, _ =>
      have e67 : t' 67 = (.bool true) := ev 49 67 rfl (hd 49 (dm (by kernel_rfl)))
      have e72 : t' 72 = (pt w 0) := ev 54 72 rfl (hd 54 (dm (by kernel_rfl)))
      rw [s9_55, e67, e72, guard_tt, nil_ptr]
      exact go 55 73 (by kernel_rfl) rfl
    | 56, _ =>
      have e67 : t' 67 = (.bool true) := ev 49 67 rfl (hd 49 (dm (by kernel_rfl)))
      have e73 : t' 73 = (pt w 0) := ev 55 73 rfl (hd 55 (dm (by kernel_rfl)))
      rw [s9_56, e67, e73, guard_tt, field_addr]
      exact go 56 74 (by kernel_rfl) rfl
    | 57, _ =>
      have e67 : t' 67 = (.bool true) := ev 49 67 rfl (hd 49 (dm (by kernel_rfl)))
      have e74 : t' 74 = (pt w 168) := ev 56 74 rfl (hd 56 (dm (by kernel_rfl)))
      rw [s9_57, e67, e74, guard_tt, load_cell (Sub.cellAt hx.fr X.w168)]
      exact go 57 75 (by kernel_rfl) rfl
    | 58, _ =>
      have e67 : t' 67 = (.bool true) := ev 49 67 rfl (hd 49 (dm (by kernel_rfl)))
      have e71 : t' 71 = (.int .u32 66048) := ev 53 71 rfl (hd 53 (dm (by kernel_rfl)))
      have e75 : t' 75 = (.int .u32 66048) := ev 57 75 rfl (hd 57 (dm (by kernel_rfl)))
      rw [s9_58, e67, e71, e75]
      rw [guard_tt]
      rw [bin_eql, show decide (_ = _) = true from decide_eq_true rfl]
      exact go 58 76 (by kernel_rfl) rfl
    | 59, _ =>
      have e67 : t' 67 = (.bool true) := ev 49 67 rfl (hd 49 (dm (by kernel_rfl)))
      have e76 : t' 76 = (.bool true) := ev 58 76 rfl (hd 58 (dm (by kernel_rfl)))
      rw [s9_59, e67, e76, pick_true]
      exact go 59 77 (by kernel_rfl) rfl
    | 60, _ =>
      have e77 : t' 77 = (.bool true) := ev 59 77 rfl (hd 59 (dm (by kernel_rfl)))
      rw [s9_60, e77]
      exact go 60 78 (by kernel_rfl) rfl
    | 61, _ =>
      have e78 : t' 78 = (.bool true) := ev 60 78 rfl (hd 60 (dm (by kernel_rfl)))
      rw [s9_61, p0, e78, guard_tt]
      exact go 61 79 (by kernel_rfl) rfl
    | 62, _ =>
      have e78 : t' 78 = (.bool true) := ev 60 78 rfl (hd 60 (dm (by kernel_rfl)))
      have e79 : t' 79 = (pt m 0) := ev 61 79 rfl (hd 61 (dm (by kernel_rfl)))
      rw [s9_62, e78, e79, guard_tt, nil_ptr]
      exact go 62 80 (by kernel_rfl) rfl
    | 63, _ =>
      have e78 : t' 78 = (.bool true) := ev 60 78 rfl (hd 60 (dm (by kernel_rfl)))
      have e80 : t' 80 = (pt m 0) := ev 62 80 rfl (hd 62 (dm (by kernel_rfl)))
      rw [s9_63, e78, e80, guard_tt, field_addr]
      exact go 63 81 (by kernel_rfl) rfl
    | 64, _ =>
      have e78 : t' 78 = (.bool true) := ev 60 78 rfl (hd 60 (dm (by kernel_rfl)))
      have e81 : t' 81 = (pt m 169) := ev 63 81 rfl (hd 63 (dm (by kernel_rfl)))
      rw [s9_64, e78, e81, guard_tt, load_cell (Sub.cellAt hx.fr X.m169)]
      exact go 64 82 (by kernel_rfl) rfl
    | 65, _ =>
      have e78 : t' 78 = (.bool true) := ev 60 78 rfl (hd 60 (dm (by kernel_rfl)))
      rw [s9_65, p1, e78, guard_tt]
      exact go 65 83 (by kernel_rfl) rfl
    | 66, _ =>
      have e78 : t' 78 = (.bool true) := ev 60 78 rfl (hd 60 (dm (by kernel_rfl)))
      have e83 : t' 83 = (pt w 0) := ev 65 83 rfl (hd 65 (dm (by kernel_rfl)))
      rw [s9_66, e78, e83, guard_tt, nil_ptr]
      exact go 66 84 (by kernel_rfl) rfl
    | 67, _ =>
      have e78 : t' 78 = (.bool true) := ev 60 78 rfl (hd 60 (dm (by kernel_rfl)))
      have e84 : t' 84 = (pt w 0) := ev 66 84 rfl (hd 66 (dm (by kernel_rfl)))
      rw [s9_67, e78, e84, guard_tt, field_addr]
      exact go 67 85 (by kernel_rfl) rfl
    | 68, _ =>
      have e78 : t' 78 = (.bool true) := ev 60 78 rfl (hd 60 (dm (by kernel_rfl)))
      have e85 : t' 85 = (pt w 169) := ev 67 85 rfl (hd 67 (dm (by kernel_rfl)))
      rw [s9_68, e78, e85, guard_tt, load_cell (Sub.cellAt hx.fr X.w169)]
      exact go 68 86 (by kernel_rfl) rfl
    | 69, _ =>
      have e78 : t' 78 = (.bool true) := ev 60 78 rfl (hd 60 (dm (by kernel_rfl)))
      have e82 : t' 82 = (.int .u32 66048) := ev 64 82 rfl (hd 64 (dm (by kernel_rfl)))
      have e86 : t' 86 = (.int .u32 66048) := ev 68 86 rfl (hd 68 (dm (by kernel_rfl)))
      rw [s9_69, e78, e82, e86]
      rw [guard_tt]
      rw [bin_eql, show decide (_ = _) = true from decide_eq_true rfl]
      exact go 69 87 (by kernel_rfl) rfl
    | 70, _ =>
      have e78 : t' 78 = (.bool true) := ev 60 78 rfl (hd 60 (dm (by kernel_rfl)))
      have e87 : t' 87 = (.bool true) := ev 69 87 rfl (hd 69 (dm (by kernel_rfl)))
      rw [s9_70, e78, e87, pick_true]
      exact go 70 88 (by kernel_rfl) rfl
    | 71, _ =>
      have e88 : t' 88 = (.bool true) := ev 70 88 rfl (hd 70 (dm (by kernel_rfl)))
      rw [s9_71, e88]
      exact go 71 89 (by kernel_rfl) rfl
    | 72, _ =>
      have e89 : t' 89 = (.bool true) := ev 71 89 rfl (hd 71 (dm (by kernel_rfl)))
      rw [s9_72, p0, e89, guard_tt]
      exact go 72 90 (by kernel_rfl) rfl
    | 73, _ =>
      have e89 : t' 89 = (.bool true) := ev 71 89 rfl (hd 71 (dm (by kernel_rfl)))
      have e90 : t' 90 = (pt m 0) := ev 72 90 rfl (hd 72 (dm (by kernel_rfl)))
      rw [s9_73, e89, e90, guard_tt, nil_ptr]
      exact go 73 91 (by kernel_rfl) rfl
    | 74, _ =>
      have e89 : t' 89 = (.bool true) := ev 71 89 rfl (hd 71 (dm (by kernel_rfl)))
      have e91 : t' 91 = (pt m 0) := ev 73 91 rfl (hd 73 (dm (by kernel_rfl)))
      rw [s9_74, e89, e91, guard_tt, field_addr]
      exact go 74 92 (by kernel_rfl) rfl
    | 75, _ =>
      have e89 : t' 89 = (.bool true) := ev 71 89 rfl (hd 71 (dm (by kernel_rfl)))
      have e92 : t' 92 = (pt m 170) := ev 74 92 rfl (hd 74 (dm (by kernel_rfl)))
      rw [s9_75, e89, e92, guard_tt, load_cell (Sub.cellAt hx.fr X.m170)]
      exact go 75 93 (by kernel_rfl) rfl
    | 76, _ =>
      have e89 : t' 89 = (.bool true) := ev 71 89 rfl (hd 71 (dm (by kernel_rfl)))
      rw [s9_76, p1, e89, guard_tt]
      exact go 76 94 (by kernel_rfl) rfl
    | 77, _ =>
      have e89 : t' 89 = (.bool true) := ev 71 89 rfl (hd 71 (dm (by kernel_rfl)))
      have e94 : t' 94 = (pt w 0) := ev 76 94 rfl (hd 76 (dm (by kernel_rfl)))
      rw [s9_77, e89, e94, guard_tt, nil_ptr]
      exact go 77 95 (by kernel_rfl) rfl
    | 78, _ =>
      have e89 : t' 89 = (.bool true) := ev 71 89 rfl (hd 71 (dm (by kernel_rfl)))
      have e95 : t' 95 = (pt w 0) := ev 77 95 rfl (hd 77 (dm (by kernel_rfl)))
      rw [s9_78, e89, e95, guard_tt, field_addr]
      exact go 78 96 (by kernel_rfl) rfl
    | 79, _ =>
      have e89 : t' 89 = (.bool true) := ev 71 89 rfl (hd 71 (dm (by kernel_rfl)))
      have e96 : t' 96 = (pt w 170) := ev 78 96 rfl (hd 78 (dm (by kernel_rfl)))
      rw [s9_79, e89, e96, guard_tt, load_cell (Sub.cellAt hx.fr X.w170)]
      exact go 79 97 (by kernel_rfl) rfl
    | 80, _ =>
      have e89 : t' 89 = (.bool true) := ev 71 89 rfl (hd 71 (dm (by kernel_rfl)))
      have e93 : t' 93 = (.slice none 0 0) := ev 75 93 rfl (hd 75 (dm (by kernel_rfl)))
      have e97 : t' 97 = (.slice none 0 0) := ev 79 97 rfl (hd 79 (dm (by kernel_rfl)))
      rw [s9_80, e89, e93, e97]
      rw [guard_tt]
      have kg : l.getD 71 false = true := hd 71 (dm (by kernel_rfl))
      have k20 := c20_22 (b35 (b49 (b60 (b71 kg))))
      have k9 := c9 (c10 (b35 (b49 (b60 (b71 kg)))))
      refine ⟨rfl, told_spec hx fun hh hx' => ?_⟩
      exact SI9.go2 hx' hT k9 k20 80 98 (by kernel_rfl) (by decide) (by decide)
    | 81, _ =>
      have e89 : t' 89 = (.bool true) := ev 71 89 rfl (hd 71 (dm (by kernel_rfl)))
      have e98 : t' 98 = (.bool true) := ev 80 98 rfl (hd 80 (dm (by kernel_rfl)))
      rw [s9_81, e89, e98, pick_true]
      exact go 81 99 (by kernel_rfl) rfl
    | 82, _ =>
      have e99 : t' 99 = (.bool true) := ev 81 99 rfl (hd 81 (dm (by kernel_rfl)))
      rw [s9_82, e99]
      exact go 82 100 (by kernel_rfl) rfl
    | 83, _ =>
      have e100 : t' 100 = (.bool true) := ev 82 100 rfl (hd 82 (dm (by kernel_rfl)))
      rw [s9_83, p0, e100, guard_tt]
      exact go 83 101 (by kernel_rfl) rfl
    | 84, _ =>
      have e100 : t' 100 = (.bool true) := ev 82 100 rfl (hd 82 (dm (by kernel_rfl)))
      have e101 : t' 101 = (pt m 0) := ev 83 101 rfl (hd 83 (dm (by kernel_rfl)))
      rw [s9_84, e100, e101, guard_tt, nil_ptr]
      exact go 84 102 (by kernel_rfl) rfl
    | 85, _ =>
      have e100 : t' 100 = (.bool true) := ev 82 100 rfl (hd 82 (dm (by kernel_rfl)))
      have e102 : t' 102 = (pt m 0) := ev 84 102 rfl (hd 84 (dm (by kernel_rfl)))
      rw [s9_85, e100, e102, guard_tt, field_addr]
      exact go 85 103 (by kernel_rfl) rfl
    | 86, _ =>
      have e100 : t' 100 = (.bool true) := ev 82 100 rfl (hd 82 (dm (by kernel_rfl)))
      have e103 : t' 103 = (pt m 164) := ev 85 103 rfl (hd 85 (dm (by kernel_rfl)))
      rw [s9_86, e100, e103, guard_tt, load_cell (Sub.cellAt hx.fr X.m164)]
      exact go 86 104 (by kernel_rfl) rfl
    | 87, _ =>
      have e100 : t' 100 = (.bool true) := ev 82 100 rfl (hd 82 (dm (by kernel_rfl)))
      have e104 : t' 104 = (pt f 0) := ev 86 104 rfl (hd 86 (dm (by kernel_rfl)))
      rw [s9_87, e100, e104]
      rw [guard_tt]
      have kg : l.getD 82 false = true := hd 82 (dm (by kernel_rfl))
      have k20 := c20_22 (b35 (b49 (b60 (b71 (b82 kg)))))
      have k9 := c9 (c10 (b35 (b49 (b60 (b71 (b82 kg))))))
      obtain ⟨_, rr⟩ := X.r49
      refine ⟨rfl, out_spec (.inl rfl) hx rr fun hh hx' => ?_⟩
      exact SI9.go2 hx' hT k9 k20 87 105 (by kernel_rfl) (by decide) (by decide)
    | 88, _ =>
      have e100 : t' 100 = (.bool true) := ev 82 100 rfl (hd 82 (dm (by kernel_rfl)))
      have e105 : t' 105 = (.slice none 0 0) := ev 87 105 rfl (hd 87 (dm (by kernel_rfl)))
      rw [s9_88, e100, e105]
      rw [guard_tt]
      rw [b2s]
      exact go 88 106 (by kernel_rfl) rfl
    | 89, _ =>
      have e100 : t' 100 = (.bool true) := ev 82 100 rfl (hd 82 (dm (by kernel_rfl)))
      rw [s9_89, p1, e100, guard_tt]
      exact go 89 107 (by kernel_rfl) rfl
    | 90, _ =>
      have e100 : t' 100 = (.bool true) := ev 82 100 rfl (hd 82 (dm (by kernel_rfl)))
      have e107 : t' 107 = (pt w 0) := ev 89 107 rfl (hd 89 (dm (by kernel_rfl)))
      rw [s9_90, e100, e107, guard_tt, nil_ptr]
      exact go 90 108 (by kernel_rfl) rfl
    | 91, _ =>
      have e100 : t' 100 = (.bool true) := ev 82 100 rfl (hd 82 (dm (by kernel_rfl)))
      have e108 : t' 108 = (pt w 0) := ev 90 108 rfl (hd 90 (dm (by kernel_rfl)))
      rw [s9_91, e100, e108, guard_tt, field_addr]
      exact go 91 109 (by kernel_rfl) rfl
    | 92, _ =>
      have e100 : t' 100 = (.bool true) := ev 82 100 rfl (hd 82 (dm (by kernel_rfl)))
      have e109 : t' 109 = (pt w 164) := ev 91 109 rfl (hd 91 (dm (by kernel_rfl)))
      rw [s9_92, e100, e109, guard_tt, load_cell (Sub.cellAt hx.fr X.w164)]
      exact go 92 110 (by kernel_rfl) rfl
    | 93, _ =>
      have e100 : t' 100 = (.bool true) := ev 82 100 rfl (hd 82 (dm (by kernel_rfl)))
      have e110 : t' 110 = (pt fw 0) := ev 92 110 rfl (hd 92 (dm (by kernel_rfl)))
      rw [s9_93, e100, e110]
      rw [guard_tt]
      have kg : l.getD 82 false = true := hd 82 (dm (by kernel_rfl))
      have k20 := c20_22 (b35 (b49 (b60 (b71 (b82 kg)))))
      have k9 := c9 (c10 (b35 (b49 (b60 (b71 (b82 kg))))))
      obtain ⟨_, rr⟩ := X.r121
      refine ⟨rfl, out7_spec (.inl rfl) hx rr fun hh hx' => ?_⟩
      exact SI9.go2 hx' hT k9 k20 93 111 (by kernel_rfl) (by decide) (by decide)
    | 94, _ =>
      have e100 : t' 100 = (.bool true) := ev 82 100 rfl (hd 82 (dm (by kernel_rfl)))
      have e111 : t' 111 = (.slice none 0 0) := ev 93 111 rfl (hd 93 (dm (by kernel_rfl)))
      rw [s9_94, e100, e111]
      rw [guard_tt]
      rw [b2s]
      exact go 94 112 (by kernel_rfl) rfl
    | 95, _ =>
      have e100 : t' 100 = (.bool true) := ev 82 100 rfl (hd 82 (dm (by kernel_rfl)))
      have e106 : t' 106 = (.string .empty) := ev 88 106 rfl (hd 88 (dm (by kernel_rfl)))
      have e112 : t' 112 = (.string .empty) := ev 94 112 rfl (hd 94 (dm (by kernel_rfl)))
      rw [s9_95, e100, e106, e112]
      rw [guard_tt]
      rw [eq_str]
      exact go 95 113 (by kernel_rfl) rfl
    | 96, _ =>
      have e100 : t' 100 = (.bool true) := ev 82 100 rfl (hd 82 (dm (by kernel_rfl)))
      have e113 : t' 113 = (.bool true) := ev 95 113 rfl (hd 95 (dm (by kernel_rfl)))
      rw [s9_96, e100, e113, pick_true]
      exact go 96 114 (by kernel_rfl) rfl
    | 97, _ =>
      have e114 : t' 114 = (.bool true) := ev 96 114 rfl (hd 96 (dm (by kernel_rfl)))
      rw [s9_97, e114]
      exact go 97 115 (by kernel_rfl) rfl
    | 98, _ =>
      have e115 : t' 115 = (.bool true) := ev 97 115 rfl (hd 97 (dm (by kernel_rfl)))
      rw [s9_98, p0, e115, guard_tt]
      exact go 98 116 (by kernel_rfl) rfl
    | 99, _ =>
      have e115 : t' 115 = (.bool true) := ev 97 115 rfl (hd 97 (dm (by kernel_rfl)))
      have e116 : t' 116 = (pt m 0) := ev 98 116 rfl (hd 98 (dm (by kernel_rfl)))
      rw [s9_99, e115, e116, guard_tt, nil_ptr]
      exact go 99 117 (by kernel_rfl) rfl
    | 100, _ =>
      have e115 : t' 115 = (.bool true) := ev 97 115 rfl (hd 97 (dm (by kernel_rfl)))
      have e117 : t' 117 = (pt m 0) := ev 99 117 rfl (hd 99 (dm (by kernel_rfl)))
      rw [s9_100, e115, e117, guard_tt, field_addr]
      exact go 100 118 (by kernel_rfl) rfl
    | 101, _ =>
      have e115 : t' 115 = (.bool true) := ev 97 115 rfl (hd 97 (dm (by kernel_rfl)))
      have e118 : t' 118 = (pt m 164) := ev 100 118 rfl (hd 100 (dm (by kernel_rfl)))
      rw [s9_101, e115, e118, guard_tt, load_cell (Sub.cellAt hx.fr X.m164)]
      exact go 101 119 (by kernel_rfl) rfl
    | 102, _ =>
      have e115 : t' 115 = (.bool true) := ev 97 115 rfl (hd 97 (dm (by kernel_rfl)))
      have e119 : t' 119 = (pt f 0) := ev 101 119 rfl (hd 101 (dm (by kernel_rfl)))
      rw [s9_102, e115, e119]
      rw [guard_tt]
      have kg : l.getD 97 false = true := hd 97 (dm (by kernel_rfl))
      have k20 := c20_22 (b35 (b49 (b60 (b71 (b82 (b97 kg))))))
      have k9 := c9 (c10 (b35 (b49 (b60 (b71 (b82 (b97 kg)))))))
      obtain ⟨_, rr⟩ := X.r49
      refine ⟨rfl, out_spec (.inr rfl) hx rr fun hh hx' => ?_⟩
      exact SI9.go2 hx' hT k9 k20 102 120 (by kernel_rfl) (by decide) (by decide)
    | 103, _ =>
      have e115 : t' 115 = (.bool true) := ev 97 115 rfl (hd 97 (dm (by kernel_rfl)))
      have e120 : t' 120 = (.slice none 0 0) := ev 102 120 rfl (hd 102 (dm (by kernel_rfl)))
      rw [s9_103, e115, e120]
      rw [guard_tt]
      rw [b2s]
      exact go 103 121 (by kernel_rfl) rfl
    | 104, _ =>
      have e115 : t' 115 = (.bool true) := ev 97 115 rfl (hd 97 (dm (by kernel_rfl)))
      rw [s9_104, p1, e115, guard_tt]
      exact go 104 122 (by kernel_rfl) rfl
    | 105, _ =>
      have e115 : t' 115 = (.bool true) := ev 97 115 rfl (hd 97 (dm (by kernel_rfl)))
      have e122 : t' 122 = (pt w 0) := ev 104 122 rfl (hd 104 (dm (by kernel_rfl)))
      rw [s9_105, e115, e122, guard_tt, nil_ptr]
      exact go 105 123 (by kernel_rfl) rfl
    | 106, _ =>
      have e115 : t' 115 = (.bool true) := ev 97 115 rfl (hd 97 (dm (by kernel_rfl)))
      have e123 : t' 123 = (pt w 0) := ev 105 123 rfl (hd 105 (dm (by kernel_rfl)))
      rw [s9_106, e115, e123, guard_tt, field_addr]
      exact go 106 124 (by kernel_rfl) rfl
    | 107, _ =>
      have e115 : t' 115 = (.bool true) := ev 97 115 rfl (hd 97 (dm (by kernel_rfl)))
      have e124 : t' 124 = (pt w 164) := ev 106 124 rfl (hd 106 (dm (by kernel_rfl)))
      rw [s9_107, e115, e124, guard_tt, load_cell (Sub.cellAt hx.fr X.w164)]
      exact go 107 125 (by kernel_rfl) rfl
    | 108, _ =>
      have e115 : t' 115 = (.bool true) := ev 97 115 rfl (hd 97 (dm (by kernel_rfl)))
      have e125 : t' 125 = (pt fw 0) := ev 107 125 rfl (hd 107 (dm (by kernel_rfl)))
      rw [s9_108, e115, e125]
      rw [guard_tt]
      have kg : l.getD 97 false = true := hd 97 (dm (by kernel_rfl))
      have k20 := c20_22 (b35 (b49 (b60 (b71 (b82 (b97 kg))))))
      have k9 := c9 (c10 (b35 (b49 (b60 (b71 (b82 (b97 kg)))))))
      obtain ⟨_, rr⟩ := X.r121
      refine ⟨rfl, out7_spec (.inr rfl) hx rr fun hh hx' => ?_⟩
      exact SI9.go2 hx' hT k9 k20 108 126 (by kernel_rfl) (by decide) (by decide)
    | 109, _ =>
      have e115 : t' 115 = (.bool true) := ev 97 115 rfl (hd 97 (dm (by kernel_rfl)))
      have e126 : t' 126 = (.slice none 0 0) := ev 108 126 rfl (hd 108 (dm (by kernel_rfl)))
      rw [s9_109, e115, e126]
      rw [guard_tt]
      rw [b2s]
      exact go 109 127 (by kernel_rfl) rfl
    | 110, _ =>
      have e115 : t' 115 = (.bool true) := ev 97 115 rfl (hd 97 (dm (by kernel_rfl)))
      have e121 : t' 121 = (.string .empty) := ev 103 121 rfl (hd 103 (dm (by kernel_rfl)))
      have e127 : t' 127 = (.string .empty) := ev 109 127 rfl (hd 109 (dm (by kernel_rfl)))
      rw [s9_110, e115, e121, e127]
      rw [guard_tt]
      rw [eq_str]
      exact go 110 128 (by kernel_rfl) rfl
    | 111, _ =>
      have e115 : t' 115 = (.bool true) := ev 97 115 rfl (hd 97 (dm (by kernel_rfl)))
      have e128 : t' 128 = (.bool true) := ev 110 128 rfl (hd 110 (dm (by kernel_rfl)))
      rw [s9_111, e115, e128, pick_true]
      exact go 111 129 (by kernel_rfl) rfl
    | 112, _ =>
      have e129 : t' 129 = (.bool true) := ev 111 129 rfl (hd 111 (dm (by kernel_rfl)))
      rw [s9_112, e129]
      exact go 112 130 (by kernel_rfl) rfl
    | 113, _ =>
      have e130 : t' 130 = (.bool true) := ev 112 130 rfl (hd 112 (dm (by kernel_rfl)))
      rw [s9_113, p5, e130, guard_tt]
      exact go 113 131 (by kernel_rfl) rfl
    | 114, _ =>
      have e130 : t' 130 = (.bool true) := ev 112 130 rfl (hd 112 (dm (by kernel_rfl)))
      rw [s9_114, p1, e130, guard_tt]
      exact go 114 132 (by kernel_rfl) rfl
    | 115, _ =>
      have e130 : t' 130 = (.bool true) := ev 112 130 rfl (hd 112 (dm (by kernel_rfl)))
      have e132 : t' 132 = (pt w 0) := ev 114 132 rfl (hd 114 (dm (by kernel_rfl)))
      rw [s9_115, e130, e132, guard_tt, nil_ptr]
      exact go 115 133 (by kernel_rfl) rfl
    | 116, _ =>
      have e130 : t' 130 = (.bool true) := ev 112 130 rfl (hd 112 (dm (by kernel_rfl)))
      have e133 : t' 133 = (pt w 0) := ev 115 133 rfl (hd 115 (dm (by kernel_rfl)))
      rw [s9_116, e130, e133, guard_tt, field_addr]
      exact go 116 134 (by kernel_rfl) rfl
    | 117, _ =>
      have e130 : t' 130 = (.bool true) := ev 112 130 rfl (hd 112 (dm (by kernel_rfl)))
      have e134 : t' 134 = (pt w 164) := ev 116 134 rfl (hd 116 (dm (by kernel_rfl)))
      rw [s9_117, e130, e134, guard_tt, load_cell (Sub.cellAt hx.fr X.w164)]
      exact go 117 135 (by kernel_rfl) rfl
    | 118, _ =>
      have e130 : t' 130 = (.bool true) := ev 112 130 rfl (hd 112 (dm (by kernel_rfl)))
      have e135 : t' 135 = (pt fw 0) := ev 117 135 rfl (hd 117 (dm (by kernel_rfl)))
      rw [s9_118, e130, e135, guard_tt, nil_ptr]
      exact go 118 136 (by kernel_rfl) rfl
    | 119, _ =>
      have e130 : t' 130 = (.bool true) := ev 112 130 rfl (hd 112 (dm (by kernel_rfl)))
      have e136 : t' 136 = (pt fw 0) := ev 118 136 rfl (hd 118 (dm (by kernel_rfl)))
      rw [s9_119, e130, e136, guard_tt, field_addr]
      exact go 119 137 (by kernel_rfl) rfl
    | 120, _ =>
      have e130 : t' 130 = (.bool true) := ev 112 130 rfl (hd 112 (dm (by kernel_rfl)))
      have e137 : t' 137 = (pt fw 0) := ev 119 137 rfl (hd 119 (dm (by kernel_rfl)))
      rw [s9_120, e130, e137, guard_tt, load_cell (X.f0 _ hx)]
      exact go 120 138 (by kernel_rfl) rfl
    | 121, _ =>
      have e130 : t' 130 = (.bool true) := ev 112 130 rfl (hd 112 (dm (by kernel_rfl)))
      have e138 : t' 138 = (pt uw 0) := ev 120 138 rfl (hd 120 (dm (by kernel_rfl)))
      rw [s9_121, e130, e138, guard_tt, nil_ptr]
      exact go 121 139 (by kernel_rfl) rfl
    | 122, _ =>
      have e130 : t' 130 = (.bool true) := ev 112 130 rfl (hd 112 (dm (by kernel_rfl)))
      have e139 : t' 139 = (pt uw 0) := ev 121 139 rfl (hd 121 (dm (by kernel_rfl)))
      rw [s9_122, e130, e139, guard_tt, field_addr]
      exact go 122 140 (by kernel_rfl) rfl
    | 123, _ =>
      have e130 : t' 130 = (.bool true) := ev 112 130 rfl (hd 112 (dm (by kernel_rfl)))
      have e140 : t' 140 = (pt uw 6) := ev 122 140 rfl (hd 122 (dm (by kernel_rfl)))
      rw [s9_123, e130, e140, guard_tt, load_cell (X.u6 _ hx)]
      exact go 123 141 (by kernel_rfl) rfl
    | 124, _ =>
      have e130 : t' 130 = (.bool true) := ev 112 130 rfl (hd 112 (dm (by kernel_rfl)))
      have e131 : t' 131 = (.int .i64 0) := ev 113 131 rfl (hd 113 (dm (by kernel_rfl)))
      have e141 : t' 141 = (.int .i64 0) := ev 123 141 rfl (hd 123 (dm (by kernel_rfl)))
      rw [s9_124, e130, e131, e141]
      rw [guard_tt]
      rw [bin_eql, show decide (_ = _) = true from decide_eq_true rfl]
      exact go 124 142 (by kernel_rfl) rfl
    | 125, _ =>
      have e130 : t' 130 = (.bool true) := ev 112 130 rfl (hd 112 (dm (by kernel_rfl)))
      have e142 : t' 142 = (.bool true) := ev 124 142 rfl (hd 124 (dm (by kernel_rfl)))
      rw [s9_125, e130, e142, pick_true]
      exact go 125 143 (by kernel_rfl) rfl
    | 126, _ =>
      have e143 : t' 143 = (.bool true) := ev 125 143 rfl (hd 125 (dm (by kernel_rfl)))
      rw [s9_126, e143]
      exact go 126 144 (by kernel_rfl) rfl
    | 127, _ =>
      have e144 : t' 144 = (.bool true) := ev 126 144 rfl (hd 126 (dm (by kernel_rfl)))
      rw [s9_127, p6, e144, guard_tt]
      exact go 127 145 (by kernel_rfl) rfl
    | 128, _ =>
      have e144 : t' 144 = (.bool true) := ev 126 144 rfl (hd 126 (dm (by kernel_rfl)))
      rw [s9_128, p1, e144, guard_tt]
      exact go 128 146 (by kernel_rfl) rfl
    | 129, _ =>
      have e144 : t' 144 = (.bool true) := ev 126 144 rfl (hd 126 (dm (by kernel_rfl)))
      have e146 : t' 146 = (pt w 0) := ev 128 146 rfl (hd 128 (dm (by kernel_rfl)))
      rw [s9_129, e144, e146, guard_tt, nil_ptr]
      exact go 129 147 (by kernel_rfl) rfl
    | 130, _ =>
      have e144 : t' 144 = (.bool true) := ev 126 144 rfl (hd 126 (dm (by kernel_rfl)))
      have e147 : t' 147 = (pt w 0) := ev 129 147 rfl (hd 129 (dm (by kernel_rfl)))
      rw [s9_130, e144, e147, guard_tt, field_addr]
      exact go 130 148 (by kernel_rfl) rfl
    | 131, _ =>
      have e144 : t' 144 = (.bool true) := ev 126 144 rfl (hd 126 (dm (by kernel_rfl)))
      have e148 : t' 148 = (pt w 164) := ev 130 148 rfl (hd 130 (dm (by kernel_rfl)))
      rw [s9_131, e144, e148, guard_tt, load_cell (Sub.cellAt hx.fr X.w164)]
      exact go 131 149 (by kernel_rfl) rfl
    | 132, _ =>
      have e144 : t' 144 = (.bool true) := ev 126 144 rfl (hd 126 (dm (by kernel_rfl)))
      have e149 : t' 149 = (pt fw 0) := ev 131 149 rfl (hd 131 (dm (by kernel_rfl)))
      rw [s9_132, e144, e149, guard_tt, nil_ptr]
      exact go 132 150 (by kernel_rfl) rfl
    | 133, _ =>
      have e144 : t' 144 = (.bool true) := ev 126 144 rfl (hd 126 (dm (by kernel_rfl)))
      have e150 : t' 150 = (pt fw 0) := ev 132 150 rfl (hd 132 (dm (by kernel_rfl)))
      rw [s9_133, e144, e150, guard_tt, field_addr]
      exact go 133 151 (by kernel_rfl) rfl
    | 134, _ =>
      have e144 : t' 144 = (.bool true) := ev 126 144 rfl (hd 126 (dm (by kernel_rfl)))
      have e151 : t' 151 = (pt fw 0) := ev 133 151 rfl (hd 133 (dm (by kernel_rfl)))
      rw [s9_134, e144, e151, guard_tt, load_cell (X.f0 _ hx)]
      exact go 134 152 (by kernel_rfl) rfl
    | 135, _ =>
      have e144 : t' 144 = (.bool true) := ev 126 144 rfl (hd 126 (dm (by kernel_rfl)))
      have e152 : t' 152 = (pt uw 0) := ev 134 152 rfl (hd 134 (dm (by kernel_rfl)))
      rw [s9_135, e144, e152, guard_tt, nil_ptr]
      exact go 135 153 (by kernel_rfl) rfl
    | 136, _ =>
      have e144 : t' 144 = (.bool true) := ev 126 144 rfl (hd 126 (dm (by kernel_rfl)))
      have e153 : t' 153 = (pt uw 0) := ev 135 153 rfl (hd 135 (dm (by kernel_rfl)))
      rw [s9_136, e144, e153, guard_tt, field_addr]
      exact go 136 154 (by kernel_rfl) rfl
    | 137, _ =>
      have e144 : t' 144 = (.bool true) := ev 126 144 rfl (hd 126 (dm (by kernel_rfl)))
      have e154 : t' 154 = (pt uw 7) := ev 136 154 rfl (hd 136 (dm (by kernel_rfl)))
      rw [s9_137, e144, e154, guard_tt, load_cell (X.u7 _ hx)]
      exact go 137 155 (by kernel_rfl) rfl
    | 138, _ =>
      have e144 : t' 144 = (.bool true) := ev 126 144 rfl (hd 126 (dm (by kernel_rfl)))
      have e145 : t' 145 = (.int .i64 0) := ev 127 145 rfl (hd 127 (dm (by kernel_rfl)))
      have e155 : t' 155 = (.int .i64 0) := ev 137 155 rfl (hd 137 (dm (by kernel_rfl)))
      rw [s9_138, e144, e145, e155]
      rw [guard_tt]
      rw [bin_eql, show decide (_ = _) = true from decide_eq_true rfl]
      exact go 138 156 (by kernel_rfl) rfl
    | 139, _ =>
      have e144 : t' 144 = (.bool true) := ev 126 144 rfl (hd 126 (dm (by kernel_rfl)))
      have e156 : t' 156 = (.bool true) := ev 138 156 rfl (hd 138 (dm (by kernel_rfl)))
      rw [s9_139, e144, e156, pick_true]
      exact go 139 157 (by kernel_rfl) rfl
    | 140, _ =>
      have e157 : t' 157 = (.bool true) := ev 139 157 rfl (hd 139 (dm (by kernel_rfl)))
      rw [s9_140, e157]
      exact go 140 158 (by kernel_rfl) rfl
    | 141, _ =>
      have e158 : t' 158 = (.bool true) := ev 140 158 rfl (hd 140 (dm (by kernel_rfl)))
      rw [s9_141, p7, e158, guard_tt]
      exact go 141 159 (by kernel_rfl) rfl
    | 142, _ =>
      have e158 : t' 158 = (.bool true) := ev 140 158 rfl (hd 140 (dm (by kernel_rfl)))
      rw [s9_142, p1, e158, guard_tt]
      exact go 142 160 (by kernel_rfl) rfl
    | 143, _ =>
      have e158 : t' 158 = (.bool true) := ev 140 158 rfl (hd 140 (dm (by kernel_rfl)))
      have e160 : t' 160 = (pt w 0) := ev 142 160 rfl (hd 142 (dm (by kernel_rfl)))
      rw [s9_143, e158, e160, guard_tt, nil_ptr]
      exact go 143 161 (by kernel_rfl) rfl
    | 144, _ =>
      have e158 : t' 158 = (.bool true) := ev 140 158 rfl (hd 140 (dm (by kernel_rfl)))
      have e161 : t' 161 = (pt w 0) := ev 143 161 rfl (hd 143 (dm (by kernel_rfl)))
      rw [s9_144, e158, e161, guard_tt, field_addr]
      exact go 144 162 (by kernel_rfl) rfl
    | 145, _ =>
      have e158 : t' 158 = (.bool true) := ev 140 158 rfl (hd 140 (dm (by kernel_rfl)))
      have e162 : t' 162 = (pt w 164) := ev 144 162 rfl (hd 144 (dm (by kernel_rfl)))
      rw [s9_145, e158, e162, guard_tt, load_cell (Sub.cellAt hx.fr X.w164)]
      exact go 145 163 (by kernel_rfl) rfl
    | 146, _ =>
      have e158 : t' 158 = (.bool true) := ev 140 158 rfl (hd 140 (dm (by kernel_rfl)))
      have e163 : t' 163 = (pt fw 0) := ev 145 163 rfl (hd 145 (dm (by kernel_rfl)))
      rw [s9_146, e158, e163, guard_tt, nil_ptr]
      exact go 146 164 (by kernel_rfl) rfl
    | 147, _ =>
      have e158 : t' 158 = (.bool true) := ev 140 158 rfl (hd 140 (dm (by kernel_rfl)))
      have e164 : t' 164 = (pt fw 0) := ev 146 164 rfl (hd 146 (dm (by kernel_rfl)))
      rw [s9_147, e158, e164, guard_tt, field_addr]
      exact go 147 165 (by kernel_rfl) rfl
    | 148, _ =>
      have e158 : t' 158 = (.bool true) := ev 140 158 rfl (hd 140 (dm (by kernel_rfl)))
      have e165 : t' 165 = (pt fw 0) := ev 147 165 rfl (hd 147 (dm (by kernel_rfl)))
      rw [s9_148, e158, e165, guard_tt, load_cell (X.f0 _ hx)]
      exact go 148 166 (by kernel_rfl) rfl
    | 149, _ =>
      have e158 : t' 158 = (.bool true) := ev 140 158 rfl (hd 140 (dm (by kernel_rfl)))
      have e166 : t' 166 = (pt uw 0) := ev 148 166 rfl (hd 148 (dm (by kernel_rfl)))
      rw [s9_149, e158, e166, guard_tt, nil_ptr]
      exact go 149 167 (by kernel_rfl) rfl
    | 150, _ =>
      have e158 : t' 158 = (.bool true) := ev 140 158 rfl (hd 140 (dm (by kernel_rfl)))
      have e167 : t' 167 = (pt uw 0) := ev 149 167 rfl (hd 149 (dm (by kernel_rfl)))
      rw [s9_150, e158, e167, guard_tt, field_addr]
      exact go 150 168 (by kernel_rfl) rfl
    | 151, _ =>
      have e158 : t' 158 = (.bool true) := ev 140 158 rfl (hd 140 (dm (by kernel_rfl)))
      have e168 : t' 168 = (pt uw 8) := ev 150 168 rfl (hd 150 (dm (by kernel_rfl)))
      rw [s9_151, e158, e168, guard_tt, load_cell (X.u8 _ hx)]
      exact go 151 169 (by kernel_rfl) rfl
    | 152, _ =>
      have e158 : t' 158 = (.bool true) := ev 140 158 rfl (hd 140 (dm (by kernel_rfl)))
      have e159 : t' 159 = (.int .i64 0) := ev 141 159 rfl (hd 141 (dm (by kernel_rfl)))
      have e169 : t' 169 = (.int .i64 0) := ev 151 169 rfl (hd 151 (dm (by kernel_rfl)))
      rw [s9_152, e158, e159, e169]
      rw [guard_tt]
      rw [bin_eql, show decide (_ = _) = true from decide_eq_true rfl]
      exact go 152 170 (by kernel_rfl) rfl
    | 153, _ =>
      have e158 : t' 158 = (.bool true) := ev 140 158 rfl (hd 140 (dm (by kernel_rfl)))
      have e170 : t' 170 = (.bool true) := ev 152 170 rfl (hd 152 (dm (by kernel_rfl)))
      rw [s9_153, e158, e170, pick_true]
      exact go 153 171 (by kernel_rfl) rfl
    | 154, _ =>
      have e171 : t' 171 = (.bool true) := ev 153 171 rfl (hd 153 (dm (by kernel_rfl)))
      rw [s9_154, e171]
      exact go 154 4 (by kernel_rfl) rfl
    | k + 155, hk => exact absurd hk (by omega)
  · intro l t' h' hl hall hI
    obtain ⟨hx, b22, b33, hT, g1, g2⟩ := hI
    have h154 : l.getD 154 false = true := by
      have := hall 154 (by rw [A9_size]; decide)
      have h2 : 154 < l.size := by rw [hl, A9_size]; decide
      simpa [Array.getD, h2] using this
    have e4 : t' 4 = .bool true := hT.v (154, 4) (List.mem_of_getElem? (i := 154) rfl) h154
    show Kn (t' 4) h'
    rw [e4]
    exact hk0 h'
def F9_3 (x4 : Value) (h : H) (Kn : Value → H → Prop) (Kr : Value → H → Prop) : Prop :=
  Kr x4 h
theorem F9_3_ok (Kn Kr) (t : T) (h : H) (H0 : F9_3 (t 4) h Kn Kr) : Wp Tryz.prog 172 (seqR (rest 2 (bodyOf Tryz.f9.body))) (mkQ (kq1 Kn 4) (kq1 Kr 4) ke0) t h :=
  wpEqF H0 (by kernel_rfl)
def F9_1 (x0 x1 x5 x6 x7 : Value) (h : H) (Kn : Value → H → Prop) (Kr : Value → H → Prop) : Prop :=
  F9_2 x0 x1 x5 x6 x7 h (fun y4 h => F9_3 y4 h Kn Kr) Kr
theorem F9_1_ok (Kn Kr) (t : T) (h : H) (H0 : F9_1 (t 0) (t 1) (t 5) (t 6) (t 7) h Kn Kr) : Wp Tryz.prog 172 (rest 2 (bodyOf Tryz.f9.body)) (mkQ (kq1 Kn 4) (kq1 Kr 4) ke0) t h :=
  seq_ok (by kernel_rfl) (fun t h H1 => F9_3_ok Kn Kr t h H1) (F9_2_ok (fun y4 h => F9_3 y4 h Kn Kr) Kr t h H0)
def F9_0 (x0 x1 : Value) (h : H) (Kn : Value → H → Prop) (Kr : Value → H → Prop) : Prop :=
  o_nilCheck x0 fun v10 => o_fieldAddr 164 v10 fun v11 => o_load false 1 v11 h fun v12 => o_call Tryz.prog 23 [v12] h fun v13 h => o_call Tryz.prog 24 [v13] h fun v14 h => o_extract v14 0 fun v15 => o_extract v14 1 fun v16 => o_extract v14 2 fun v17 => F9_1 x0 x1 v15 v16 v17 h Kn Kr
theorem F9_0_ok (Kn Kr) (t : T) (h : H) (H0 : F9_0 (t 0) (t 1) h Kn Kr) : Wp Tryz.prog 172 (bodyOf Tryz.f9.body) (mkQ (kq1 Kn 4) (kq1 Kr 4) ke0) t h :=
  awpTo_okF 2 H0 (by kernel_rfl) (fun t h (H1 : F9_1 (t 0) (t 1) (t 5) (t 6) (t 7) h Kn Kr) => F9_1_ok Kn Kr t h H1) (by kernel_rfl)
def F9 (x0 x1 : Value) (h : H) (Q : Value → H → Prop) : Prop := F9_0 x0 x1 h (fun v h => Q v h) (fun v h => Q v h)
theorem F9_spec (x0 x1 : Value) (h : H) (Q : Value → H → Prop) (H0 : F9 x0 x1 h Q) : AM.Spec Tryz.prog 9 [x0, x1] h Q :=
  spec_wp mixed (fn := Tryz.f9) Tryz.func9 (c := bodyOf Tryz.f9.body) (rs := [4]) (N := 172) (by kernel_rfl) (by kernel_rfl) (by kernel_rfl) (by kernel_rfl) (by kernel_rfl) (Nat.le_of_ble_eq_true rfl) (F9_0_ok (fun v h => Q v h) (fun v h => Q v h) (tinit [x0, x1]) h H0) (by kernel_rfl)
end Go.Proofs.YtcohcmlidmaaoaaGreat
