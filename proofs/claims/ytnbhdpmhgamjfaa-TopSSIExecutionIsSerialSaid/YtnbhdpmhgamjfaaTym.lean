/- Top 16: the law's four statements that draw their order, each walked by itself. -/
import Derived.Test.YtnbhdpmhgamjfaaTyl
import Derived.Test.YtnbhdpmhgamjfaaQp
import Derived.Test.YtnbhdpmhgamjfaaRs
import Derived.Deep.CutRange
import Derived.Deep.RegionLawGrows
namespace Go.Proofs.Ytnbhdpmhgamjfaa.Sn
open Go Go.RowKit Hp
open Mv (Val PC PV Srt SOk pos has cnt)
open C (Tx TxR Txs tx0 Valid admV admL cur wk cur_snoc ic)
set_option linter.unusedVariables false

/-- The statement number n of a function's text. -/
def findReg (n : Nat) : Code → Option Code
  | .region i ops b => match Nat.beq i n with
    | true => some (.region i ops b)
    | false => none
  | .seq a b => match findReg n a with
    | some c => some c
    | none => findReg n b
  | .cond _ a b => match findReg n a with
    | some c => some c
    | none => findReg n b
  | .block _ c => findReg n c
  | .loop c => findReg n c
  | .scope c => findReg n c
  | _ => none
noncomputable def codeR (n : Nat) : Code := ((Try.f3.body.bind (findReg n)).getD .skip)
theorem Try.infoS : (Try.prog.info? 9).map (fun i => (i.zero, i.size, i.bytes)) = some (some (.string ByteArray.empty), 1, 16) := by kernel_rfl
theorem Try.infoA : (Try.prog.info? 35).map (fun i => (i.zero, i.size, i.bytes)) = some (some (.agg #[.int .i64 0, .int .i64 0, .slice none 0 0, .slice none 0 0]), 4, 64) := by kernel_rfl
theorem Try.infoB : (Try.prog.info? 37).map (fun i => (i.zero, i.size, i.bytes)) = some (some (.agg #[.int .i64 0, .int .i64 0, .int .i64 0, .slice none 0 0, .slice none 0 0, .slice none 0 0]), 6, 96) := by kernel_rfl
set_option maxRecDepth 100000 in
set_option maxHeartbeats 16000000 in
theorem reg25 {w3 w5 : World} {M : MRec} {k : Nat} {sk : ByteArray} {y : Int} {v0 v1 v2 v3 v4 v5 v6 v7 v8 v9 v11 v12 v13 v16 v17 v18 v19 v20 v21 v22 v23 v24 v25 v26 v27 v28 v29 v30 v31 v32 v33 v34 v35 v36 v37 v38 v39 v40 v41 v42 v43 v44 v45 v46 v47 v48 v49 v50 v51 v52 v53 v54 v55 v56 v57 v58 v59 v60 v61 v62 v63 v64 v65 v66 v67 v68 v69 v70 v71 v72 v73 v74 v75 v76 v77 v78 v79 v80 v81 v82 v83 v84 v85 v86 v87 v88 v89 v90 v91 v92 v93 v94 v95 v96 v97 v98 v99 v100 v101 v102 v103 v104 v105 v106 v107 v108 v109 v110 v111 v112 v113 v114 v115 v116 v117 v118 v119 v120 v121 v122 v123 v124 v125 v126 v127 v128 v129 v130 v131 v132 v133 v134 v135 v136 v137 v138 v139 v140 v141 v142 v143 v144 v145 v146 v147 v148 v149 v150 v151 v152 v153 v154 v155 v156 v157 v158 v159 v160 v161 v162 v163 v164 v165 v166 v167 v168 v169 v170 v171 v172 v173 v174 v175 v176 v177 v178 v179 v180 v181 v182 v183 v184 v185 v186 v187 v188 v189 v190 v191 v192 v193 v194 v195 v196 v197 v198 v199 v200 v201 v202 v203 v204 v205 v206 v207 v208 v209 v210 v211 v212 v213 v214 v215 v216 v217 v218 v219 v220 : Value} (hlk : k < 3) (hrl : M.r.tx.reads.length ≤ k) (hrr : M.r.read.length ≤ k) (C5 : Hid (Cur w3 w5 M)) {A : Act} (hA : A = ⟨#[v0, v1, v2, v3, v4, v5, v6, v7, v8, v9, .pointer (some ⟨w3.heap.size, 0, none⟩), v11, v12, v13, .string sk, .int .i64 y, v16, v17, v18, v19, v20, v21, v22, v23, v24, v25, v26, v27, v28, v29, v30, v31, v32, v33, v34, v35, v36, v37, v38, v39, v40, v41, v42, v43, v44, v45, v46, v47, v48, v49, v50, v51, v52, v53, v54, v55, v56, v57, v58, v59, v60, v61, v62, v63, v64, v65, v66, v67, v68, v69, v70, v71, v72, v73, v74, v75, v76, v77, v78, v79, v80, v81, v82, v83, v84, v85, v86, v87, v88, v89, v90, v91, v92, v93, v94, v95, v96, v97, v98, v99, v100, v101, v102, v103, v104, v105, v106, v107, v108, v109, v110, v111, v112, v113, v114, v115, v116, v117, v118, v119, v120, v121, v122, v123, v124, v125, v126, v127, v128, v129, v130, v131, v132, v133, v134, v135, v136, v137, v138, v139, v140, v141, v142, v143, v144, v145, v146, v147, v148, v149, v150, v151, v152, v153, v154, v155, v156, v157, v158, v159, v160, v161, v162, v163, v164, v165, v166, v167, v168, v169, v170, v171, v172, v173, v174, v175, v176, v177, v178, v179, v180, v181, v182, v183, v184, v185, v186, v187, v188, v189, v190, v191, v192, v193, v194, v195, v196, v197, v198, v199, v200, v201, v202, v203, v204, v205, v206, v207, v208, v209, v210, v211, v212, v213, v214, v215, v216, v217, v218, v219, v220], []⟩) :
    (codeR 25).wp Try.prog (OnNormal (fun a' W => ∃ v88 v89 v95 v96 : Value, Hid (Cur w3 W (addRd M sk y v89 v96)) ∧ a' = ((((((((((((((((((((((A.put (some 80) (.pointer (some ⟨w3.heap.size, 0, none⟩))).put (some 81) (.pointer (some ⟨w3.heap.size, 0, none⟩))).put (some 82) (.pointer (some ⟨w3.heap.size, 0, none⟩))).put (some 83) (.pointer (some ⟨w3.heap.size, 0, none⟩))).put (some 84) (.pointer (some ⟨w3.heap.size, 1, none⟩))).put (some 85) (.pointer (some ⟨w3.heap.size, 3, none⟩))).put (some 86) (M.rv)).put (some 87) (.string sk)).put (some 88) (v88)).put (some 89) (v89)).put (some 90) (.pointer (some ⟨w3.heap.size, 0, none⟩))).put (some 91) (.pointer (some ⟨w3.heap.size, 0, none⟩))).put (some 92) (.pointer (some ⟨w3.heap.size, 5, none⟩))).put (some 93) (M.xv)).put (some 94) (.int .i64 y)).put (some 95) (v95)).put (some 96) (v96)).put (some 97) (.pointer (some ⟨w3.heap.size, 0, none⟩))).put (some 98) (.pointer (some ⟨w3.heap.size, 1, none⟩))).put (some 99) (.pointer (some ⟨w3.heap.size, 3, none⟩))).put (some 100) (.pointer (some ⟨w3.heap.size, 0, none⟩))).put (some 101) (.pointer (some ⟨w3.heap.size, 5, none⟩))))) A w5 := by
  subst hA
  conv => arg 2; whnf
  obtain ⟨iS, hiS, hzS0, hzS1, hzS2⟩ := info_parts Try.infoS
  obtain ⟨iI, hiI, hzI0, hzI1, hzI2⟩ := info_parts C.Try.infoI
  have c3 := C5.out.blk.cell 3
  have c5 := C5.out.blk.cell 5
  simp only [mrC1, List.getElem?_cons_zero, List.getElem?_cons_succ] at c3 c5
  simp only [Act.put, List.setIfInBounds_toArray, List.set_cons_zero, List.set_cons_succ]
  refine wp_region_any (by kernel_rfl) ?_
  change wpAny _ _ _ _ _ _ _ (World.drew _)
  refine wpAny_take (i := 1) (v := .pointer (some ⟨w3.heap.size, 0, none⟩)) rfl (by kernel_rfl) (by kernel_rfl) (by kernel_rfl) (fun _ _ _ h => h) (Or.inl ⟨by rfl, ?y1⟩) ?r1
  case y1 => intro w; go_simp
  case r1 =>
    simp only [Act.put, List.setIfInBounds_toArray]
    change wpAny _ _ _ _ _ (List.toArray [false, true, false, false, false, false, false, false, false, false, false, false, false, false, false, false, false, false, false, false, false, false, false, false]) _ _
    refine two_apply (bs := [false, false, false, false, false, false, false, false, false, false, false, false, false, false, false, false, false, true, true, true, true, true, true, true]) (L0 := [false, true, false, false, false, false, false, false, false, false, false, false, false, false, false, false, false, false, false, false, false, false, false, false]) (S := fun w' => w'.cell? ⟨w3.heap.size, 3, none⟩ = some M.rv ∧ w'.cell? ⟨w3.heap.size, 5, none⟩ = some M.xv) (by kernel_rfl) rfl (by decide) ?_
    simp only [List.zipWith_cons_cons, List.zipWith_nil_left, if_true, if_false, Bool.false_eq_true, Hp.idle]
    --REG25
    have hHeld : (fun w' : World => w'.cell? ⟨w3.heap.size, 3, none⟩ = some M.rv ∧ w'.cell? ⟨w3.heap.size, 5, none⟩ = some M.xv) w5.drew := ⟨c3, c5⟩
    refine wpAnyH_take (i := 0) (v := ?z1v) rfl (by kernel_rfl) (by kernel_rfl) (by kernel_rfl) (fun _ _ _ h => h) (Or.inl ⟨by rfl, ?z1y⟩) (by assumption) ?z1r
    case z1y => (intro w hSw; (try dsimp only at hSw); go_simp; try with_reducible rfl)
    (try simp only [Act.put, List.setIfInBounds_toArray, List.set_cons_zero])
    refine wpAnyH_take (i := 2) (v := ?z2v) rfl (by kernel_rfl) (by kernel_rfl) (by kernel_rfl) (fun _ _ _ h => h) (Or.inl ⟨by rfl, ?z2y⟩) (by assumption) ?z2r
    case z2y => (intro w hSw; (try dsimp only at hSw); go_simp; try with_reducible rfl)
    (try simp only [Act.put, List.setIfInBounds_toArray, List.set_cons_zero, List.set_cons_succ])
    refine wpAnyH_take (i := 3) (v := ?z3v) rfl (by kernel_rfl) (by kernel_rfl) (by kernel_rfl) (fun _ _ _ h => h) (Or.inl ⟨by rfl, ?z3y⟩) (by assumption) ?z3r
    case z3y => (intro w hSw; (try dsimp only at hSw); go_simp; try with_reducible rfl)
    (try simp only [Act.put, List.setIfInBounds_toArray, List.set_cons_zero, List.set_cons_succ])
    refine wpAnyH_take (i := 4) (v := ?z4v) rfl (by kernel_rfl) (by kernel_rfl) (by kernel_rfl) (fun _ _ _ h => h) (Or.inl ⟨by rfl, ?z4y⟩) (by assumption) ?z4r
    case z4y => (intro w hSw; (try dsimp only at hSw); go_simp; try with_reducible rfl)
    (try simp only [Act.put, List.setIfInBounds_toArray, List.set_cons_zero, List.set_cons_succ])
    refine wpAnyH_take (i := 5) (v := ?z5v) rfl (by kernel_rfl) (by kernel_rfl) (by kernel_rfl) (fun _ _ _ h => h) (Or.inl ⟨by rfl, ?z5y⟩) (by assumption) ?z5r
    case z5y => (intro w hSw; (try dsimp only at hSw); go_simp; try with_reducible rfl)
    (try simp only [Act.put, List.setIfInBounds_toArray, List.set_cons_zero, List.set_cons_succ])
    refine wpAnyH_take (i := 6) (v := ?z6v) rfl (by kernel_rfl) (by kernel_rfl) (by kernel_rfl) (fun _ _ _ h => h) (Or.inl ⟨by rfl, ?z6y⟩) (by assumption) ?z6r
    case z6y => (intro w hSw; (try dsimp only at hSw); go_simp; try with_reducible rfl)
    (try simp only [Act.put, List.setIfInBounds_toArray, List.set_cons_zero, List.set_cons_succ])
    refine wpAnyH_take (i := 7) (v := ?z7v) rfl (by kernel_rfl) (by kernel_rfl) (by kernel_rfl) (fun _ _ _ h => h) (Or.inl ⟨by rfl, ?z7y⟩) (by assumption) ?z7r
    case z7y => (intro w hSw; (try dsimp only at hSw); go_simp; try with_reducible rfl)
    (try simp only [Act.put, List.setIfInBounds_toArray, List.set_cons_zero, List.set_cons_succ])
    refine wpAnyH_take (i := 10) (v := ?z8v) rfl (by kernel_rfl) (by kernel_rfl) (by kernel_rfl) (fun _ _ _ h => h) (Or.inl ⟨by rfl, ?z8y⟩) (by assumption) ?z8r
    case z8y => (intro w hSw; (try dsimp only at hSw); go_simp; try with_reducible rfl)
    (try simp only [Act.put, List.setIfInBounds_toArray, List.set_cons_zero, List.set_cons_succ])
    refine wpAnyH_take (i := 11) (v := ?z9v) rfl (by kernel_rfl) (by kernel_rfl) (by kernel_rfl) (fun _ _ _ h => h) (Or.inl ⟨by rfl, ?z9y⟩) (by assumption) ?z9r
    case z9y => (intro w hSw; (try dsimp only at hSw); go_simp; try with_reducible rfl)
    (try simp only [Act.put, List.setIfInBounds_toArray, List.set_cons_zero, List.set_cons_succ])
    refine wpAnyH_take (i := 12) (v := ?z10v) rfl (by kernel_rfl) (by kernel_rfl) (by kernel_rfl) (fun _ _ _ h => h) (Or.inl ⟨by rfl, ?z10y⟩) (by assumption) ?z10r
    case z10y => (intro w hSw; (try dsimp only at hSw); go_simp; try with_reducible rfl)
    (try simp only [Act.put, List.setIfInBounds_toArray, List.set_cons_zero, List.set_cons_succ])
    refine wpAnyH_take (i := 13) (v := ?z11v) rfl (by kernel_rfl) (by kernel_rfl) (by kernel_rfl) (fun _ _ _ h => h) (Or.inl ⟨by rfl, ?z11y⟩) (by assumption) ?z11r
    case z11y => (intro w hSw; (try dsimp only at hSw); go_simp; try with_reducible rfl)
    (try simp only [Act.put, List.setIfInBounds_toArray, List.set_cons_zero, List.set_cons_succ])
    refine wpAnyH_take (i := 14) (v := ?z12v) rfl (by kernel_rfl) (by kernel_rfl) (by kernel_rfl) (fun _ _ _ h => h) (Or.inl ⟨by rfl, ?z12y⟩) (by assumption) ?z12r
    case z12y => (intro w hSw; (try dsimp only at hSw); go_simp; try with_reducible rfl)
    (try simp only [Act.put, List.setIfInBounds_toArray, List.set_cons_zero, List.set_cons_succ])
    refine wpAnyH_ready (rs := [8, 15]) (by kernel_rfl) (by simp) (AllReadyH.cons rfl (fun K hK => ?k8) (AllReadyH.cons rfl (fun K hK => ?k15) AllReadyH.nil))
    case k8 =>
      go_simp
      refine hK.out _ _ ?z13s (fun hHeld => ?z13h)
      case z13s => exact ⟨by first | assumption | exact c3 | go_keep, by first | assumption | exact c5 | go_keep⟩
      clear hK K
      (try simp only [List.setIfInBounds_toArray, List.set_cons_zero, List.set_cons_succ])
      have CA := Lib.hid (C5.out.grow (((Up.refl w5).alloc (.cells #[.string sk] 9)).drew))
      have BA := Lib.hid ((Blk.new w5 #[.string sk] 9).drew)
      refine wpAnyH_ready (rs := [9, 15]) (by kernel_rfl) (by simp) (AllReadyH.cons rfl (fun K hK => ?k9) (AllReadyH.cons rfl (fun K hK => ?kb15) AllReadyH.nil))
      case k9 =>
        refine step_append_lies _ rfl (.tmp 86) (.tmp 88) 33 rfl w3.heap.size 9 iS (.string ByteArray.empty) 1 16 Try.underlying33 hiS hzS0 hzS1 hzS2 rfl (by decide) M.rv M.r.tx.reads.length (sc M.r.tx.reads) (by simp [Act.eval]) CA.out.ok.rd ⟨w5.heap.size, 0, none⟩ 1 1 [.string sk] (by simp [Act.eval]) rfl (World.news_of_block BA.out) (by intro u hu; simp at hu; subst hu; rfl) (by omega) (by unfold maxLen; omega) (by omega) CA.out.up.size _ rfl ?_
        intro g9 c9 w6 hown9 hgrow9 hat9 hlt9
        have AM := Lib.hid (Cur.app CA.out hown9 hgrow9 hat9 (Nat.le_refl _))
        have AG := Lib.hid hgrow9
        clear hown9 hgrow9 hat9
        have q3 := AM.out.blk.cell 3
        have q5 := AM.out.blk.cell 5
        simp only [mrC1, List.getElem?_cons_zero, List.getElem?_cons_succ] at q3 q5
        refine hK.out _ _ ?z14s (fun hHeld => ?z14h)
        case z14s => exact ⟨by first | assumption | exact q3 | go_keep, by first | assumption | exact q5 | go_keep⟩
        clear hK K
        (try simp only [Act.put, List.setIfInBounds_toArray, List.set_cons_zero, List.set_cons_succ])
        refine wpAnyH_ready (rs := [15]) (by kernel_rfl) (by simp) (AllReadyH.cons rfl (fun K hK => ?one15) AllReadyH.nil)
        go_simp
        refine hK.out _ _ ?z16s (fun hHeld => ?z16h)
        case z16s => exact ⟨by first | assumption | exact q3 | go_keep, by first | assumption | exact q5 | go_keep⟩
        clear hK K
        (try simp only [List.setIfInBounds_toArray, List.set_cons_zero, List.set_cons_succ])
        have CB := Lib.hid (AM.out.grow ((Up.refl w6).alloc (.cells #[.int .i64 y] 3)))
        have BB := Lib.hid (Blk.new w6 #[.int .i64 y] 3)
        refine wpAnyH_ready (rs := [16]) (by kernel_rfl) (by simp) (AllReadyH.cons rfl (fun K hK => ?one17) AllReadyH.nil)
        refine step_append_lies _ rfl (.tmp 93) (.tmp 95) 22 rfl w3.heap.size 3 iI (.int .i64 0) 1 8 Try.underlying22 hiI hzI0 hzI1 hzI2 rfl (by decide) M.xv M.r.read.length (ic M.r.read) (by simp [Act.eval]) CB.out.xv ⟨w6.heap.size, 0, none⟩ 1 1 [.int .i64 y] (by simp [Act.eval]) rfl (World.news_of_block BB.out) (by intro u hu; simp at hu; subst hu; rfl) (by omega) (by unfold maxLen; omega) (by omega) CB.out.up.size _ rfl ?_
        intro g8 c8 w7 hown8 hgrow8 hat8 hlt8
        obtain ⟨kb7, kc7⟩ := Mid.app CB.out hown8 hgrow8
        have FIN := Lib.hid kc7
        have u3 := kb7.cell 3
        have u5 := kb7.cell 5
        have uf3 := kb7.free 3
        have uf5 := kb7.free 5
        have ul := kb7.lt
        simp only [mrC1, List.getElem?_cons_zero, List.getElem?_cons_succ] at u3 u5
        clear hown8 hgrow8 hat8 kb7 kc7
        refine hK.out _ _ ?z18s (fun hHeld => ?z18h)
        case z18s => exact ⟨by first | assumption | exact u3 | go_keep, by first | assumption | exact u5 | go_keep⟩
        clear hK K
        (try simp only [Act.put, List.setIfInBounds_toArray, List.set_cons_zero, List.set_cons_succ])
        refine wpAnyH_take (i := 17) (v := ?z19v) rfl (by kernel_rfl) (by kernel_rfl) (by kernel_rfl) (fun _ _ _ h => h) (Or.inl ⟨by rfl, ?z19y⟩) (by assumption) ?z19r
        case z19y => (intro w hSw; (try dsimp only at hSw); go_simp; try with_reducible rfl)
        (try simp only [Act.put, List.setIfInBounds_toArray, List.set_cons_zero, List.set_cons_succ])
        refine wpAnyH_take (i := 18) (v := ?z20v) rfl (by kernel_rfl) (by kernel_rfl) (by kernel_rfl) (fun _ _ _ h => h) (Or.inl ⟨by rfl, ?z20y⟩) (by assumption) ?z20r
        case z20y => (intro w hSw; (try dsimp only at hSw); go_simp; try with_reducible rfl)
        (try simp only [Act.put, List.setIfInBounds_toArray, List.set_cons_zero, List.set_cons_succ])
        refine wpAnyH_take (i := 19) (v := ?z21v) rfl (by kernel_rfl) (by kernel_rfl) (by kernel_rfl) (fun _ _ _ h => h) (Or.inl ⟨by rfl, ?z21y⟩) (by assumption) ?z21r
        case z21y => (intro w hSw; (try dsimp only at hSw); go_simp; try with_reducible rfl)
        (try simp only [Act.put, List.setIfInBounds_toArray, List.set_cons_zero, List.set_cons_succ])
        refine wpAnyH_take (i := 20) (v := ?z22v) rfl (by kernel_rfl) (by kernel_rfl) (by kernel_rfl) (fun _ _ _ h => h) (Or.inl ⟨by rfl, ?z22y⟩) (by assumption) ?z22r
        case z22y => (intro w hSw; (try dsimp only at hSw); go_simp; try with_reducible rfl)
        (try simp only [Act.put, List.setIfInBounds_toArray, List.set_cons_zero, List.set_cons_succ])
        refine wpAnyH_take (i := 21) (v := ?z23v) rfl (by kernel_rfl) (by kernel_rfl) (by kernel_rfl) (fun _ _ _ h => h) (Or.inl ⟨by rfl, ?z23y⟩) (by assumption) ?z23r
        case z23y => (intro w hSw; (try dsimp only at hSw); go_simp; try with_reducible rfl)
        (try simp only [Act.put, List.setIfInBounds_toArray, List.set_cons_zero, List.set_cons_succ])
        refine wpAnyH_take (i := 22) (v := ?z24v) rfl (by kernel_rfl) (by kernel_rfl) (by kernel_rfl) (fun _ _ _ h => h) (Or.inl ⟨by rfl, ?z24y⟩) (by assumption) ?z24r
        case z24y => (intro w hSw; (try dsimp only at hSw); go_simp; try with_reducible rfl)
        (try simp only [Act.put, List.setIfInBounds_toArray, List.set_cons_zero, List.set_cons_succ])
        refine wpAnyH_take (i := 23) (v := ?z25v) rfl (by kernel_rfl) (by kernel_rfl) (by kernel_rfl) (fun _ _ _ h => h) (Or.inl ⟨by rfl, ?z25y⟩) (by assumption) ?z25r
        case z25y => (intro w hSw; (try dsimp only at hSw); go_simp; try with_reducible rfl)
        (try simp only [Act.put, List.setIfInBounds_toArray, List.set_cons_zero, List.set_cons_succ])
        refine wpAnyH_done (by kernel_rfl) ?fin26 _
        intro f hf
        obtain ⟨f, rfl⟩ : ∃ f', f = f' + 7 := ⟨f - 7, by have h7 : (7 : Nat) ≤ f := hf; omega⟩
        refine wpAny_take (i := 17) (v := ?z27v) rfl (by kernel_rfl) (by kernel_rfl) (by kernel_rfl) (fun _ _ _ h => h) (Or.inl ⟨by rfl, ?z27y⟩) ?z27r
        case z27y => (intro w ; go_simp; try with_reducible rfl)
        (try simp only [Act.put, List.setIfInBounds_toArray])
        refine wpAny_take (i := 18) (v := ?z28v) rfl (by kernel_rfl) (by kernel_rfl) (by kernel_rfl) (fun _ _ _ h => h) (Or.inl ⟨by rfl, ?z28y⟩) ?z28r
        case z28y => (intro w ; go_simp; try with_reducible rfl)
        (try simp only [Act.put, List.setIfInBounds_toArray])
        refine wpAny_take (i := 19) (v := ?z29v) rfl (by kernel_rfl) (by kernel_rfl) (by kernel_rfl) (fun _ _ _ h => h) (Or.inl ⟨by rfl, ?z29y⟩) ?z29r
        case z29y => (intro w ; go_simp; try with_reducible rfl)
        (try simp only [Act.put, List.setIfInBounds_toArray])
        refine wpAny_ready (rs := [20]) (by kernel_rfl) (by simp) (AllReady.cons rfl (fun K hK => ?_) AllReady.nil)
        go_simp
        refine hK _ _ ?_
        clear hK K
        (try simp only [List.setIfInBounds_toArray])
        refine wpAny_take (i := 21) (v := ?z30v) rfl (by kernel_rfl) (by kernel_rfl) (by kernel_rfl) (fun _ _ _ h => h) (Or.inl ⟨by rfl, ?z30y⟩) ?z30r
        case z30y => (intro w ; go_simp; try with_reducible rfl)
        (try simp only [Act.put, List.setIfInBounds_toArray])
        refine wpAny_take (i := 22) (v := ?z31v) rfl (by kernel_rfl) (by kernel_rfl) (by kernel_rfl) (fun _ _ _ h => h) (Or.inl ⟨by rfl, ?z31y⟩) ?z31r
        case z31y => (intro w ; go_simp; try with_reducible rfl)
        (try simp only [Act.put, List.setIfInBounds_toArray])
        refine wpAny_ready (rs := [23]) (by kernel_rfl) (by simp) (AllReady.cons rfl (fun K hK => ?_) AllReady.nil)
        go_simp
        refine hK _ _ ?_
        clear hK K
        (try simp only [List.setIfInBounds_toArray])
        exact wpAny_done (by kernel_rfl) (OnNormal.of ⟨_, _, _, _, FIN, rfl⟩) _
      case kb15 =>
        go_simp
        refine hK.out _ _ ?z32s (fun hHeld => ?z32h)
        case z32s => exact ⟨by first | assumption | exact c3 | go_keep, by first | assumption | exact c5 | go_keep⟩
        clear hK K
        (try simp only [List.setIfInBounds_toArray, List.set_cons_zero, List.set_cons_succ])
        have CB2 := Lib.hid (C5.out.grow ((((Up.refl w5).alloc (.cells #[.string sk] 9)).alloc (.cells #[.int .i64 y] 3)).drew))
        have BA2 := Lib.hid (((Blk.new w5 #[.string sk] 9).up ((Up.refl _).alloc (.cells #[.int .i64 y] 3))).drew)
        have hz2 := (Blk.new (w5.alloc (.cells #[.string sk] 9)) #[.int .i64 y] 3).drew
        rw [World.size_alloc] at hz2
        have BI0 := Lib.hid hz2
        clear hz2
        refine wpAnyH_ready (rs := [9]) (by kernel_rfl) (by simp) (AllReadyH.cons rfl (fun K hK => ?one33) AllReadyH.nil)
        refine step_append_lies _ rfl (.tmp 86) (.tmp 88) 33 rfl w3.heap.size 9 iS (.string ByteArray.empty) 1 16 Try.underlying33 hiS hzS0 hzS1 hzS2 rfl (by decide) M.rv M.r.tx.reads.length (sc M.r.tx.reads) (by simp [Act.eval]) CB2.out.ok.rd ⟨w5.heap.size, 0, none⟩ 1 1 [.string sk] (by simp [Act.eval]) rfl (World.news_of_block BA2.out) (by intro u hu; simp at hu; subst hu; rfl) (by omega) (by unfold maxLen; omega) (by omega) CB2.out.up.size _ rfl ?_
        intro g9 c9 w6 hown9 hgrow9 hat9 hlt9
        have AM := Lib.hid (Cur.app CB2.out hown9 hgrow9 hat9 (Nat.le_refl _))
        have AG := Lib.hid hgrow9
        clear hown9 hgrow9 hat9
        have q3 := AM.out.blk.cell 3
        have q5 := AM.out.blk.cell 5
        simp only [mrC1, List.getElem?_cons_zero, List.getElem?_cons_succ] at q3 q5
        refine hK.out _ _ ?z34s (fun hHeld => ?z34h)
        case z34s => exact ⟨by first | assumption | exact q3 | go_keep, by first | assumption | exact q5 | go_keep⟩
        clear hK K
        (try simp only [Act.put, List.setIfInBounds_toArray, List.set_cons_zero, List.set_cons_succ])
        have BB := Lib.hid (BI0.out.chg ((Chg.refl _ _).grown AG.out fun k hk => .inl hk) fun e => ((own_ty CB2.out.ok.rd) _ e).1.ne (by decide) (blk_ty BI0.out))
        refine wpAnyH_ready (rs := [16]) (by kernel_rfl) (by simp) (AllReadyH.cons rfl (fun K hK => ?one35) AllReadyH.nil)
        refine step_append_lies _ rfl (.tmp 93) (.tmp 95) 22 rfl w3.heap.size 3 iI (.int .i64 0) 1 8 Try.underlying22 hiI hzI0 hzI1 hzI2 rfl (by decide) M.xv M.r.read.length (ic M.r.read) (by simp [Act.eval]) AM.out.xv ⟨w5.heap.size + 1, 0, none⟩ 1 1 [.int .i64 y] (by simp [Act.eval]) rfl (World.news_of_block BB.out) (by intro u hu; simp at hu; subst hu; rfl) (by omega) (by unfold maxLen; omega) (by omega) AM.out.up.size _ rfl ?_
        intro g8 c8 w7 hown8 hgrow8 hat8 hlt8
        obtain ⟨kb7, kc7⟩ := Mid.app AM.out hown8 hgrow8
        have FIN := Lib.hid kc7
        have u3 := kb7.cell 3
        have u5 := kb7.cell 5
        have uf3 := kb7.free 3
        have uf5 := kb7.free 5
        have ul := kb7.lt
        simp only [mrC1, List.getElem?_cons_zero, List.getElem?_cons_succ] at u3 u5
        clear hown8 hgrow8 hat8 kb7 kc7
        refine hK.out _ _ ?z36s (fun hHeld => ?z36h)
        case z36s => exact ⟨by first | assumption | exact u3 | go_keep, by first | assumption | exact u5 | go_keep⟩
        clear hK K
        (try simp only [Act.put, List.setIfInBounds_toArray, List.set_cons_zero, List.set_cons_succ])
        refine wpAnyH_take (i := 17) (v := ?z37v) rfl (by kernel_rfl) (by kernel_rfl) (by kernel_rfl) (fun _ _ _ h => h) (Or.inl ⟨by rfl, ?z37y⟩) (by assumption) ?z37r
        case z37y => (intro w hSw; (try dsimp only at hSw); go_simp; try with_reducible rfl)
        (try simp only [Act.put, List.setIfInBounds_toArray, List.set_cons_zero, List.set_cons_succ])
        refine wpAnyH_take (i := 18) (v := ?z38v) rfl (by kernel_rfl) (by kernel_rfl) (by kernel_rfl) (fun _ _ _ h => h) (Or.inl ⟨by rfl, ?z38y⟩) (by assumption) ?z38r
        case z38y => (intro w hSw; (try dsimp only at hSw); go_simp; try with_reducible rfl)
        (try simp only [Act.put, List.setIfInBounds_toArray, List.set_cons_zero, List.set_cons_succ])
        refine wpAnyH_take (i := 19) (v := ?z39v) rfl (by kernel_rfl) (by kernel_rfl) (by kernel_rfl) (fun _ _ _ h => h) (Or.inl ⟨by rfl, ?z39y⟩) (by assumption) ?z39r
        case z39y => (intro w hSw; (try dsimp only at hSw); go_simp; try with_reducible rfl)
        (try simp only [Act.put, List.setIfInBounds_toArray, List.set_cons_zero, List.set_cons_succ])
        refine wpAnyH_take (i := 20) (v := ?z40v) rfl (by kernel_rfl) (by kernel_rfl) (by kernel_rfl) (fun _ _ _ h => h) (Or.inl ⟨by rfl, ?z40y⟩) (by assumption) ?z40r
        case z40y => (intro w hSw; (try dsimp only at hSw); go_simp; try with_reducible rfl)
        (try simp only [Act.put, List.setIfInBounds_toArray, List.set_cons_zero, List.set_cons_succ])
        refine wpAnyH_take (i := 21) (v := ?z41v) rfl (by kernel_rfl) (by kernel_rfl) (by kernel_rfl) (fun _ _ _ h => h) (Or.inl ⟨by rfl, ?z41y⟩) (by assumption) ?z41r
        case z41y => (intro w hSw; (try dsimp only at hSw); go_simp; try with_reducible rfl)
        (try simp only [Act.put, List.setIfInBounds_toArray, List.set_cons_zero, List.set_cons_succ])
        refine wpAnyH_take (i := 22) (v := ?z42v) rfl (by kernel_rfl) (by kernel_rfl) (by kernel_rfl) (fun _ _ _ h => h) (Or.inl ⟨by rfl, ?z42y⟩) (by assumption) ?z42r
        case z42y => (intro w hSw; (try dsimp only at hSw); go_simp; try with_reducible rfl)
        (try simp only [Act.put, List.setIfInBounds_toArray, List.set_cons_zero, List.set_cons_succ])
        refine wpAnyH_take (i := 23) (v := ?z43v) rfl (by kernel_rfl) (by kernel_rfl) (by kernel_rfl) (fun _ _ _ h => h) (Or.inl ⟨by rfl, ?z43y⟩) (by assumption) ?z43r
        case z43y => (intro w hSw; (try dsimp only at hSw); go_simp; try with_reducible rfl)
        (try simp only [Act.put, List.setIfInBounds_toArray, List.set_cons_zero, List.set_cons_succ])
        refine wpAnyH_done (by kernel_rfl) ?fin44 _
        intro f hf
        obtain ⟨f, rfl⟩ : ∃ f', f = f' + 7 := ⟨f - 7, by have h7 : (7 : Nat) ≤ f := hf; omega⟩
        refine wpAny_take (i := 17) (v := ?z45v) rfl (by kernel_rfl) (by kernel_rfl) (by kernel_rfl) (fun _ _ _ h => h) (Or.inl ⟨by rfl, ?z45y⟩) ?z45r
        case z45y => (intro w ; go_simp; try with_reducible rfl)
        (try simp only [Act.put, List.setIfInBounds_toArray])
        refine wpAny_take (i := 18) (v := ?z46v) rfl (by kernel_rfl) (by kernel_rfl) (by kernel_rfl) (fun _ _ _ h => h) (Or.inl ⟨by rfl, ?z46y⟩) ?z46r
        case z46y => (intro w ; go_simp; try with_reducible rfl)
        (try simp only [Act.put, List.setIfInBounds_toArray])
        refine wpAny_take (i := 19) (v := ?z47v) rfl (by kernel_rfl) (by kernel_rfl) (by kernel_rfl) (fun _ _ _ h => h) (Or.inl ⟨by rfl, ?z47y⟩) ?z47r
        case z47y => (intro w ; go_simp; try with_reducible rfl)
        (try simp only [Act.put, List.setIfInBounds_toArray])
        refine wpAny_ready (rs := [20]) (by kernel_rfl) (by simp) (AllReady.cons rfl (fun K hK => ?_) AllReady.nil)
        go_simp
        refine hK _ _ ?_
        clear hK K
        (try simp only [List.setIfInBounds_toArray])
        refine wpAny_take (i := 21) (v := ?z48v) rfl (by kernel_rfl) (by kernel_rfl) (by kernel_rfl) (fun _ _ _ h => h) (Or.inl ⟨by rfl, ?z48y⟩) ?z48r
        case z48y => (intro w ; go_simp; try with_reducible rfl)
        (try simp only [Act.put, List.setIfInBounds_toArray])
        refine wpAny_take (i := 22) (v := ?z49v) rfl (by kernel_rfl) (by kernel_rfl) (by kernel_rfl) (fun _ _ _ h => h) (Or.inl ⟨by rfl, ?z49y⟩) ?z49r
        case z49y => (intro w ; go_simp; try with_reducible rfl)
        (try simp only [Act.put, List.setIfInBounds_toArray])
        refine wpAny_ready (rs := [23]) (by kernel_rfl) (by simp) (AllReady.cons rfl (fun K hK => ?_) AllReady.nil)
        go_simp
        refine hK _ _ ?_
        clear hK K
        (try simp only [List.setIfInBounds_toArray])
        exact wpAny_done (by kernel_rfl) (OnNormal.of ⟨_, _, _, _, FIN, rfl⟩) _
    case k15 =>
      go_simp
      refine hK.out _ _ ?z50s (fun hHeld => ?z50h)
      case z50s => exact ⟨by first | assumption | exact c3 | go_keep, by first | assumption | exact c5 | go_keep⟩
      clear hK K
      (try simp only [List.setIfInBounds_toArray, List.set_cons_zero, List.set_cons_succ])
      refine wpAnyH_ready (rs := [8]) (by kernel_rfl) (by simp) (AllReadyH.cons rfl (fun K hK => ?one51) AllReadyH.nil)
      go_simp
      refine hK.out _ _ ?z52s (fun hHeld => ?z52h)
      case z52s => exact ⟨by first | assumption | exact c3 | go_keep, by first | assumption | exact c5 | go_keep⟩
      clear hK K
      (try simp only [List.setIfInBounds_toArray, List.set_cons_zero, List.set_cons_succ])
      have CB2 := Lib.hid (C5.out.grow ((((Up.refl w5).alloc (.cells #[.int .i64 y] 3)).alloc (.cells #[.string sk] 9)).drew))
      have BI0 := Lib.hid (((Blk.new w5 #[.int .i64 y] 3).up ((Up.refl _).alloc (.cells #[.string sk] 9))).drew)
      have hz2 := (Blk.new (w5.alloc (.cells #[.int .i64 y] 3)) #[.string sk] 9).drew
      rw [World.size_alloc] at hz2
      have BA2 := Lib.hid hz2
      clear hz2
      refine wpAnyH_ready (rs := [9]) (by kernel_rfl) (by simp) (AllReadyH.cons rfl (fun K hK => ?one53) AllReadyH.nil)
      refine step_append_lies _ rfl (.tmp 86) (.tmp 88) 33 rfl w3.heap.size 9 iS (.string ByteArray.empty) 1 16 Try.underlying33 hiS hzS0 hzS1 hzS2 rfl (by decide) M.rv M.r.tx.reads.length (sc M.r.tx.reads) (by simp [Act.eval]) CB2.out.ok.rd ⟨w5.heap.size + 1, 0, none⟩ 1 1 [.string sk] (by simp [Act.eval]) rfl (World.news_of_block BA2.out) (by intro u hu; simp at hu; subst hu; rfl) (by omega) (by unfold maxLen; omega) (by omega) CB2.out.up.size _ rfl ?_
      intro g9 c9 w6 hown9 hgrow9 hat9 hlt9
      have AM := Lib.hid (Cur.app CB2.out hown9 hgrow9 hat9 (Nat.le_refl _))
      have AG := Lib.hid hgrow9
      clear hown9 hgrow9 hat9
      have q3 := AM.out.blk.cell 3
      have q5 := AM.out.blk.cell 5
      simp only [mrC1, List.getElem?_cons_zero, List.getElem?_cons_succ] at q3 q5
      refine hK.out _ _ ?z54s (fun hHeld => ?z54h)
      case z54s => exact ⟨by first | assumption | exact q3 | go_keep, by first | assumption | exact q5 | go_keep⟩
      clear hK K
      (try simp only [Act.put, List.setIfInBounds_toArray, List.set_cons_zero, List.set_cons_succ])
      have BB := Lib.hid (BI0.out.chg ((Chg.refl _ _).grown AG.out fun k hk => .inl hk) fun e => ((own_ty CB2.out.ok.rd) _ e).1.ne (by decide) (blk_ty BI0.out))
      refine wpAnyH_ready (rs := [16]) (by kernel_rfl) (by simp) (AllReadyH.cons rfl (fun K hK => ?one55) AllReadyH.nil)
      refine step_append_lies _ rfl (.tmp 93) (.tmp 95) 22 rfl w3.heap.size 3 iI (.int .i64 0) 1 8 Try.underlying22 hiI hzI0 hzI1 hzI2 rfl (by decide) M.xv M.r.read.length (ic M.r.read) (by simp [Act.eval]) AM.out.xv ⟨w5.heap.size, 0, none⟩ 1 1 [.int .i64 y] (by simp [Act.eval]) rfl (World.news_of_block BB.out) (by intro u hu; simp at hu; subst hu; rfl) (by omega) (by unfold maxLen; omega) (by omega) AM.out.up.size _ rfl ?_
      intro g8 c8 w7 hown8 hgrow8 hat8 hlt8
      obtain ⟨kb7, kc7⟩ := Mid.app AM.out hown8 hgrow8
      have FIN := Lib.hid kc7
      have u3 := kb7.cell 3
      have u5 := kb7.cell 5
      have uf3 := kb7.free 3
      have uf5 := kb7.free 5
      have ul := kb7.lt
      simp only [mrC1, List.getElem?_cons_zero, List.getElem?_cons_succ] at u3 u5
      clear hown8 hgrow8 hat8 kb7 kc7
      refine hK.out _ _ ?z56s (fun hHeld => ?z56h)
      case z56s => exact ⟨by first | assumption | exact u3 | go_keep, by first | assumption | exact u5 | go_keep⟩
      clear hK K
      (try simp only [Act.put, List.setIfInBounds_toArray, List.set_cons_zero, List.set_cons_succ])
      refine wpAnyH_take (i := 17) (v := ?z57v) rfl (by kernel_rfl) (by kernel_rfl) (by kernel_rfl) (fun _ _ _ h => h) (Or.inl ⟨by rfl, ?z57y⟩) (by assumption) ?z57r
      case z57y => (intro w hSw; (try dsimp only at hSw); go_simp; try with_reducible rfl)
      (try simp only [Act.put, List.setIfInBounds_toArray, List.set_cons_zero, List.set_cons_succ])
      refine wpAnyH_take (i := 18) (v := ?z58v) rfl (by kernel_rfl) (by kernel_rfl) (by kernel_rfl) (fun _ _ _ h => h) (Or.inl ⟨by rfl, ?z58y⟩) (by assumption) ?z58r
      case z58y => (intro w hSw; (try dsimp only at hSw); go_simp; try with_reducible rfl)
      (try simp only [Act.put, List.setIfInBounds_toArray, List.set_cons_zero, List.set_cons_succ])
      refine wpAnyH_take (i := 19) (v := ?z59v) rfl (by kernel_rfl) (by kernel_rfl) (by kernel_rfl) (fun _ _ _ h => h) (Or.inl ⟨by rfl, ?z59y⟩) (by assumption) ?z59r
      case z59y => (intro w hSw; (try dsimp only at hSw); go_simp; try with_reducible rfl)
      (try simp only [Act.put, List.setIfInBounds_toArray, List.set_cons_zero, List.set_cons_succ])
      refine wpAnyH_take (i := 20) (v := ?z60v) rfl (by kernel_rfl) (by kernel_rfl) (by kernel_rfl) (fun _ _ _ h => h) (Or.inl ⟨by rfl, ?z60y⟩) (by assumption) ?z60r
      case z60y => (intro w hSw; (try dsimp only at hSw); go_simp; try with_reducible rfl)
      (try simp only [Act.put, List.setIfInBounds_toArray, List.set_cons_zero, List.set_cons_succ])
      refine wpAnyH_take (i := 21) (v := ?z61v) rfl (by kernel_rfl) (by kernel_rfl) (by kernel_rfl) (fun _ _ _ h => h) (Or.inl ⟨by rfl, ?z61y⟩) (by assumption) ?z61r
      case z61y => (intro w hSw; (try dsimp only at hSw); go_simp; try with_reducible rfl)
      (try simp only [Act.put, List.setIfInBounds_toArray, List.set_cons_zero, List.set_cons_succ])
      refine wpAnyH_take (i := 22) (v := ?z62v) rfl (by kernel_rfl) (by kernel_rfl) (by kernel_rfl) (fun _ _ _ h => h) (Or.inl ⟨by rfl, ?z62y⟩) (by assumption) ?z62r
      case z62y => (intro w hSw; (try dsimp only at hSw); go_simp; try with_reducible rfl)
      (try simp only [Act.put, List.setIfInBounds_toArray, List.set_cons_zero, List.set_cons_succ])
      refine wpAnyH_take (i := 23) (v := ?z63v) rfl (by kernel_rfl) (by kernel_rfl) (by kernel_rfl) (fun _ _ _ h => h) (Or.inl ⟨by rfl, ?z63y⟩) (by assumption) ?z63r
      case z63y => (intro w hSw; (try dsimp only at hSw); go_simp; try with_reducible rfl)
      (try simp only [Act.put, List.setIfInBounds_toArray, List.set_cons_zero, List.set_cons_succ])
      refine wpAnyH_done (by kernel_rfl) ?fin64 _
      intro f hf
      obtain ⟨f, rfl⟩ : ∃ f', f = f' + 7 := ⟨f - 7, by have h7 : (7 : Nat) ≤ f := hf; omega⟩
      refine wpAny_take (i := 17) (v := ?z65v) rfl (by kernel_rfl) (by kernel_rfl) (by kernel_rfl) (fun _ _ _ h => h) (Or.inl ⟨by rfl, ?z65y⟩) ?z65r
      case z65y => (intro w ; go_simp; try with_reducible rfl)
      (try simp only [Act.put, List.setIfInBounds_toArray])
      refine wpAny_take (i := 18) (v := ?z66v) rfl (by kernel_rfl) (by kernel_rfl) (by kernel_rfl) (fun _ _ _ h => h) (Or.inl ⟨by rfl, ?z66y⟩) ?z66r
      case z66y => (intro w ; go_simp; try with_reducible rfl)
      (try simp only [Act.put, List.setIfInBounds_toArray])
      refine wpAny_take (i := 19) (v := ?z67v) rfl (by kernel_rfl) (by kernel_rfl) (by kernel_rfl) (fun _ _ _ h => h) (Or.inl ⟨by rfl, ?z67y⟩) ?z67r
      case z67y => (intro w ; go_simp; try with_reducible rfl)
      (try simp only [Act.put, List.setIfInBounds_toArray])
      refine wpAny_ready (rs := [20]) (by kernel_rfl) (by simp) (AllReady.cons rfl (fun K hK => ?_) AllReady.nil)
      go_simp
      refine hK _ _ ?_
      clear hK K
      (try simp only [List.setIfInBounds_toArray])
      refine wpAny_take (i := 21) (v := ?z68v) rfl (by kernel_rfl) (by kernel_rfl) (by kernel_rfl) (fun _ _ _ h => h) (Or.inl ⟨by rfl, ?z68y⟩) ?z68r
      case z68y => (intro w ; go_simp; try with_reducible rfl)
      (try simp only [Act.put, List.setIfInBounds_toArray])
      refine wpAny_take (i := 22) (v := ?z69v) rfl (by kernel_rfl) (by kernel_rfl) (by kernel_rfl) (fun _ _ _ h => h) (Or.inl ⟨by rfl, ?z69y⟩) ?z69r
      case z69y => (intro w ; go_simp; try with_reducible rfl)
      (try simp only [Act.put, List.setIfInBounds_toArray])
      refine wpAny_ready (rs := [23]) (by kernel_rfl) (by simp) (AllReady.cons rfl (fun K hK => ?_) AllReady.nil)
      go_simp
      refine hK _ _ ?_
      clear hK K
      (try simp only [List.setIfInBounds_toArray])
      exact wpAny_done (by kernel_rfl) (OnNormal.of ⟨_, _, _, _, FIN, rfl⟩) _
    --END25
set_option maxRecDepth 100000 in
set_option maxHeartbeats 16000000 in
theorem reg27 {w3 wc : World} {M' : MRec} {k : Nat} {v0 v1 v2 v3 v4 v5 v6 v7 v8 v9 v11 v12 v14 v15 v16 v17 v18 v19 v20 v21 v22 v23 v24 v25 v26 v27 v28 v29 v30 v31 v32 v33 v34 v35 v36 v37 v38 v39 v40 v41 v42 v43 v44 v45 v46 v47 v48 v49 v50 v51 v52 v53 v54 v55 v56 v57 v58 v59 v60 v61 v62 v63 v64 v65 v66 v67 v68 v69 v70 v71 v72 v73 v74 v75 v76 v77 v78 v79 v80 v81 v82 v83 v84 v85 v86 v87 v88 v89 v90 v91 v92 v93 v94 v95 v96 v97 v98 v99 v100 v101 v102 v103 v104 v105 v106 v107 v108 v109 v110 v111 v112 v113 v114 v115 v116 v117 v118 v119 v120 v121 v122 v123 v124 v125 v126 v127 v128 v129 v130 v131 v132 v133 v134 v135 v136 v137 v138 v139 v140 v141 v142 v143 v144 v145 v146 v147 v148 v149 v150 v151 v152 v153 v154 v155 v156 v157 v158 v159 v160 v161 v162 v163 v164 v165 v166 v167 v168 v169 v170 v171 v172 v173 v174 v175 v176 v177 v178 v179 v180 v181 v182 v183 v184 v185 v186 v187 v188 v189 v190 v191 v192 v193 v194 v195 v196 v197 v198 v199 v200 v201 v202 v203 v204 v205 v206 v207 v208 v209 v210 v211 v212 v213 v214 v215 v216 v217 v218 v219 v220 : Value} (hlk : k < 3) (hwl : M'.r.tx.writes.length ≤ k) (HC : Hid (Cur w3 wc M')) {A : Act} (hA : A = ⟨#[v0, v1, v2, v3, v4, v5, v6, v7, v8, v9, .pointer (some ⟨w3.heap.size, 0, none⟩), v11, v12, .int .i64 (k : Int), v14, v15, v16, v17, v18, v19, v20, v21, v22, v23, v24, v25, v26, v27, v28, v29, v30, v31, v32, v33, v34, v35, v36, v37, v38, v39, v40, v41, v42, v43, v44, v45, v46, v47, v48, v49, v50, v51, v52, v53, v54, v55, v56, v57, v58, v59, v60, v61, v62, v63, v64, v65, v66, v67, v68, v69, v70, v71, v72, v73, v74, v75, v76, v77, v78, v79, v80, v81, v82, v83, v84, v85, v86, v87, v88, v89, v90, v91, v92, v93, v94, v95, v96, v97, v98, v99, v100, v101, v102, v103, v104, v105, v106, v107, v108, v109, v110, v111, v112, v113, v114, v115, v116, v117, v118, v119, v120, v121, v122, v123, v124, v125, v126, v127, v128, v129, v130, v131, v132, v133, v134, v135, v136, v137, v138, v139, v140, v141, v142, v143, v144, v145, v146, v147, v148, v149, v150, v151, v152, v153, v154, v155, v156, v157, v158, v159, v160, v161, v162, v163, v164, v165, v166, v167, v168, v169, v170, v171, v172, v173, v174, v175, v176, v177, v178, v179, v180, v181, v182, v183, v184, v185, v186, v187, v188, v189, v190, v191, v192, v193, v194, v195, v196, v197, v198, v199, v200, v201, v202, v203, v204, v205, v206, v207, v208, v209, v210, v211, v212, v213, v214, v215, v216, v217, v218, v219, v220], []⟩) :
    (codeR 27).wp Try.prog (OnNormal (fun a' W => ∃ v116 v117 v118 v120 v121 : Value, Hid (Cur w3 W (addWr M' (one (120 + (k : Int))) v121)) ∧ a' = ((((((((((((((((A.put (some 109) (.pointer (some ⟨w3.heap.size, 0, none⟩))).put (some 110) (.pointer (some ⟨w3.heap.size, 0, none⟩))).put (some 111) (.pointer (some ⟨w3.heap.size, 0, none⟩))).put (some 112) (.pointer (some ⟨w3.heap.size, 1, none⟩))).put (some 113) (.pointer (some ⟨w3.heap.size, 4, none⟩))).put (some 114) M'.wv).put (some 115) (.int .i64 (k : Int))).put (some 116) v116).put (some 117) v117).put (some 118) v118).put (some 119) (.string (one (120 + (k : Int))))).put (some 120) v120).put (some 121) v121).put (some 122) (.pointer (some ⟨w3.heap.size, 0, none⟩))).put (some 123) (.pointer (some ⟨w3.heap.size, 1, none⟩))).put (some 124) (.pointer (some ⟨w3.heap.size, 4, none⟩))))) A wc := by
  subst hA
  conv => arg 2; whnf
  have hk3 : (k : Int) < 3 := by omega
  have hcv := conv1 (P := Try.prog) 38 9 5 Try.underlying38 Try.underlying5 Try.underlying9
  have hcv2 : ∀ z : Int, (convert 38 9 (.slice (some ⟨wc.heap.size, 0, none⟩) 1 1)).run Try.prog (wc.alloc (.cells #[.int .u8 z] 5)).drew = .ok (.string (one z)) (wc.alloc (.cells #[.int .u8 z] 5)).drew := fun z => hcv wc.drew z 1 5
  clear hcv
  obtain ⟨iS, hiS, hzS0, hzS1, hzS2⟩ := info_parts Try.infoS
  have hwq : IntKind.u8.wrap (k : Int) = (k : Int) := by rw [IntKind.wrap_u8]; omega
  have hwr : IntKind.u8.wrap (120 + (k : Int)) = 120 + (k : Int) := by rw [IntKind.wrap_u8]; omega
  have c4 := HC.out.blk.cell 4
  have f4 := HC.out.blk.free 4
  have hbl := HC.out.blk.lt
  simp only [mrC1, List.getElem?_cons_zero, List.getElem?_cons_succ] at c4
  have CB := Lib.hid (HC.out.grow ((((Up.refl wc).alloc (.cells #[.int .u8 (120 + (k : Int))] 5)).alloc (.cells #[.string (one (120 + (k : Int)))] 9)).drew))
  have hz2 := (Blk.new (wc.alloc (.cells #[.int .u8 (120 + (k : Int))] 5)) #[.string (one (120 + (k : Int)))] 9).drew
  rw [World.size_alloc] at hz2
  have BA := Lib.hid hz2
  clear hz2
  simp only [Act.put, List.setIfInBounds_toArray, List.set_cons_zero, List.set_cons_succ]
  go_region_law (first
    | (refine step_append_lies _ rfl (.tmp 114) (.tmp 120) 33 rfl w3.heap.size 9 iS (.string ByteArray.empty) 1 16 Try.underlying33 hiS hzS0 hzS1 hzS2 rfl (by decide) M'.wv M'.r.tx.writes.length (sc M'.r.tx.writes) (by simp [Act.eval]) CB.out.ok.wr ⟨wc.heap.size + 1, 0, none⟩ 1 1 [.string (one (120 + (k : Int)))] (by simp [Act.eval]) rfl (World.news_of_block BA.out) (by intro u hu; simp at hu; subst hu; rfl) (by omega) (by unfold maxLen; omega) (by omega) CB.out.up.size _ rfl ?_
       intro g8 c8 w7 hown8 hgrow8 hat8 hlt8
       obtain ⟨kb7, kc7⟩ := Cur.appw CB.out hown8 hgrow8 hat8 (Nat.le_refl _)
       have FIN := Lib.hid kc7
       have y4 := kb7.cell 4
       have yf4 := kb7.free 4
       have yl := kb7.lt
       simp only [mrC1, List.getElem?_cons_zero, List.getElem?_cons_succ] at y4
       clear hown8 hgrow8 hat8 kb7 kc7)
    | fail)
  all_goals exact OnNormal.of ⟨_, _, _, _, _, FIN, rfl⟩
set_option maxRecDepth 100000 in
set_option maxHeartbeats 16000000 in
theorem reg34 {w W0 : World} {K : Nat → Prop} {p b6 q : Nat} {d : Db} {os : List (Option (Nat × MRec))} {aa ea : Option Addr} {ac ec : Nat} {ms : List MRec} {M : MRec} {v0 v1 v2 v3 v6 v7 v8 v9 v11 v12 v13 v14 v15 v16 v17 v18 v19 v20 v21 v22 v23 v24 v25 v26 v27 v28 v29 v30 v31 v32 v33 v34 v35 v36 v37 v38 v39 v40 v41 v42 v43 v44 v45 v46 v47 v48 v49 v50 v51 v52 v53 v54 v55 v56 v57 v58 v59 v60 v61 v62 v63 v64 v65 v66 v67 v68 v69 v70 v71 v72 v73 v74 v75 v76 v77 v78 v79 v80 v81 v82 v83 v84 v85 v86 v87 v88 v89 v90 v91 v92 v93 v94 v95 v96 v97 v98 v99 v100 v101 v102 v103 v104 v105 v106 v107 v108 v109 v110 v111 v112 v113 v114 v115 v116 v117 v118 v119 v120 v121 v122 v123 v124 v125 v126 v127 v128 v129 v130 v131 v132 v133 v134 v135 v136 v137 v138 v139 v140 v141 v142 v143 v144 v145 v146 v147 v148 v149 v150 v151 v152 v153 v154 v155 v156 v157 v158 v159 v160 v161 v162 v163 v164 v165 v166 v167 v168 v169 v170 v171 v172 v173 v174 v175 v176 v177 v178 v179 v180 v181 v182 v183 v184 v185 v186 v187 v188 v189 v190 v191 v192 v193 v194 v195 v196 v197 v198 v199 v200 v201 v202 v203 v204 v205 v206 v207 v208 v209 v210 v211 v212 v213 v214 v215 v216 v217 v218 v219 v220 : Value} (hml : ms.length ≤ 40) (HLV : Hid (SMm w W0 K p b6 d os (.slice aa ms.length ac) (.slice ea ms.length ec) ms ∧ BOk w W0 K (.slice ea ms.length ec) q M)) {A : Act} (hA : A = ⟨#[v0, v1, v2, v3, .slice aa ms.length ac, .slice ea ms.length ec, v6, v7, v8, v9, .pointer (some ⟨q, 0, none⟩), v11, v12, v13, v14, v15, v16, v17, v18, v19, v20, v21, v22, v23, v24, v25, v26, v27, v28, v29, v30, v31, v32, v33, v34, v35, v36, v37, v38, v39, v40, v41, v42, v43, v44, v45, v46, v47, v48, v49, v50, v51, v52, v53, v54, v55, v56, v57, v58, v59, v60, v61, v62, v63, v64, v65, v66, v67, v68, v69, v70, v71, v72, v73, v74, v75, v76, v77, v78, v79, v80, v81, v82, v83, v84, v85, v86, v87, v88, v89, v90, v91, v92, v93, v94, v95, v96, v97, v98, v99, v100, v101, v102, v103, v104, v105, v106, v107, v108, v109, v110, v111, v112, v113, v114, v115, v116, v117, v118, v119, v120, v121, v122, v123, v124, v125, v126, v127, v128, v129, v130, v131, v132, v133, v134, v135, v136, v137, v138, v139, v140, v141, v142, v143, v144, v145, v146, v147, v148, v149, v150, v151, v152, v153, v154, v155, v156, v157, v158, v159, v160, v161, v162, v163, v164, v165, v166, v167, v168, v169, v170, v171, v172, v173, v174, v175, v176, v177, v178, v179, v180, v181, v182, v183, v184, v185, v186, v187, v188, v189, v190, v191, v192, v193, v194, v195, v196, v197, v198, v199, v200, v201, v202, v203, v204, v205, v206, v207, v208, v209, v210, v211, v212, v213, v214, v215, v216, v217, v218, v219, v220], []⟩) :
    (codeR 34).wp Try.prog (OnNormal (fun a' W => ∃ (v144 v150 : Value) (g c g' c' : Nat), Hid (∃ K', SMm w W K' p b6 d os (.slice (some ⟨g, 0, none⟩) (ms.length + 1) c) (.slice (some ⟨g', 0, none⟩) (ms.length + 1) c') (ms ++ [M]) ∧ BOk w W K' (.slice (some ⟨g', 0, none⟩) (ms.length + 1) c') q M) ∧ a' = (((((((((((((((A.put (some 139) (.slice aa ms.length ac)).put (some 140) (.pointer (some ⟨q, 0, none⟩))).put (some 141) (.pointer (some ⟨q, 0, none⟩))).put (some 142) (.pointer (some ⟨q, 1, none⟩))).put (some 143) (.agg #[.int .i64 M.r.tx.start, .int .i64 M.r.tx.commit, M.rv, M.wv])).put (some 144) v144).put (some 145) (.slice (some ⟨g, 0, none⟩) (ms.length + 1 : Nat) c)).put (some 146) (.slice ea ms.length ec)).put (some 147) (.pointer (some ⟨q, 0, none⟩))).put (some 148) (.pointer (some ⟨q, 0, none⟩))).put (some 149) (.agg #[.int .i64 M.r.id, .int .i64 M.r.tx.start, .int .i64 M.r.tx.commit, M.rv, M.wv, M.xv])).put (some 150) v150).put (some 151) (.slice (some ⟨g', 0, none⟩) (ms.length + 1 : Nat) c')).put (some 4) (.slice (some ⟨g, 0, none⟩) (ms.length + 1 : Nat) c)).put (some 5) (.slice (some ⟨g', 0, none⟩) (ms.length + 1 : Nat) c')))) A W0 := by
  subst hA
  conv => arg 2; whnf
  obtain ⟨iA, hiA, hzA0, hzA1, hzA2⟩ := info_parts Try.infoA
  obtain ⟨iB, hiB, hzB0, hzB1, hzB2⟩ := info_parts Try.infoB
  have o1 := row_one HLV.out.2.ok.rd
  have o2 := row_one HLV.out.2.ok.wr
  have o3 := row_one HLV.out.2.ok.xr
  simp only [Act.put, List.setIfInBounds_toArray, List.set_cons_zero, List.set_cons_succ]
  --REG34
  refine wp_region_held_drew (S := fun w' => Six w' q M) (by kernel_rfl) ?hs0 (fun hHeld => ?hr0)
  case hs0 => exact six_of HLV.out.2.blk.drew
  refine wpAnyH_take (i := 0) (v := ?e1v) rfl (by kernel_rfl) (by kernel_rfl) (by kernel_rfl) (fun _ _ _ h => h) (Or.inl ⟨by rfl, ?e1y⟩) (by assumption) ?e1r
  case e1y => (intro w hSw; (try dsimp only [Six] at hSw); go_simp; try with_reducible rfl)
  (try simp only [Act.put, List.setIfInBounds_toArray])
  refine wpAnyH_take (i := 1) (v := ?e2v) rfl (by kernel_rfl) (by kernel_rfl) (by kernel_rfl) (fun _ _ _ h => h) (Or.inl ⟨by rfl, ?e2y⟩) (by assumption) ?e2r
  case e2y => (intro w hSw; (try dsimp only [Six] at hSw); go_simp; try with_reducible rfl)
  (try simp only [Act.put])
  refine wpAnyH_take (i := 2) (v := ?e3v) rfl (by kernel_rfl) (by kernel_rfl) (by kernel_rfl) (fun _ _ _ h => h) (Or.inl ⟨by rfl, ?e3y⟩) (by assumption) ?e3r
  case e3y => (intro w hSw; (try dsimp only [Six] at hSw); go_simp; try with_reducible rfl)
  (try simp only [Act.put])
  refine wpAnyH_take (i := 3) (v := ?e4v) rfl (by kernel_rfl) (by kernel_rfl) (by kernel_rfl) (fun _ _ _ h => h) (Or.inl ⟨by rfl, ?e4y⟩) (by assumption) ?e4r
  case e4y => (intro w hSw; (try dsimp only [Six] at hSw); go_simp; try with_reducible rfl)
  (try simp only [Act.put])
  refine wpAnyH_take (i := 4) (v := ?e5v) rfl (by kernel_rfl) (by kernel_rfl) (by kernel_rfl) (fun _ _ _ h => h) (Or.inl ⟨by rfl, ?e5y⟩) (by assumption) ?e5r
  case e5y => (intro w hSw; (try dsimp only [Six] at hSw); go_simp; try with_reducible rfl)
  (try simp only [Act.put])
  refine wpAnyH_take (i := 7) (v := ?e6v) rfl (by kernel_rfl) (by kernel_rfl) (by kernel_rfl) (fun _ _ _ h => h) (Or.inl ⟨by rfl, ?e6y⟩) (by assumption) ?e6r
  case e6y => (intro w hSw; (try dsimp only [Six] at hSw); go_simp; try with_reducible rfl)
  (try simp only [Act.put])
  refine wpAnyH_take (i := 8) (v := ?e7v) rfl (by kernel_rfl) (by kernel_rfl) (by kernel_rfl) (fun _ _ _ h => h) (Or.inl ⟨by rfl, ?e7y⟩) (by assumption) ?e7r
  case e7y => (intro w hSw; (try dsimp only [Six] at hSw); go_simp; try with_reducible rfl)
  (try simp only [Act.put])
  refine wpAnyH_take (i := 9) (v := ?e8v) rfl (by kernel_rfl) (by kernel_rfl) (by kernel_rfl) (fun _ _ _ h => h) (Or.inl ⟨by rfl, ?e8y⟩) (by assumption) ?e8r
  case e8y => (intro w hSw; (try dsimp only [Six] at hSw); go_simp; try with_reducible rfl)
  (try simp only [Act.put])
  refine wpAnyH_take (i := 10) (v := ?e9v) rfl (by kernel_rfl) (by kernel_rfl) (by kernel_rfl) (fun _ _ _ h => h) (Or.inl ⟨by rfl, ?e9y⟩) (by assumption) ?e9r
  case e9y => (intro w hSw; (try dsimp only [Six] at hSw); go_simp; try with_reducible rfl)
  (try simp only [Act.put])
  refine wpAnyH_ready (rs := [5, 11]) (by kernel_rfl) (by simp) (AllReadyH.cons rfl (fun K hK => ?k5) (AllReadyH.cons rfl (fun K hK => ?k11) AllReadyH.nil))
  case k5 =>
    go_simp
    have CA := Lib.hid (((Up.refl W0).alloc (.cells #[.int .i64 M.r.tx.start, .int .i64 M.r.tx.commit, M.rv, M.wv] 35)).drew)
    have BA := Lib.hid ((Blk.new W0 #[.int .i64 M.r.tx.start, .int .i64 M.r.tx.commit, M.rv, M.wv] 35).drew)
    refine hK.out _ _ ?e10s (fun hHeld => ?e10h)
    case e10s => exact six_of (HLV.out.2.blk.up CA.out)
    clear hK K
    (try simp only [Act.put, List.setIfInBounds_toArray, List.set_cons_zero, List.set_cons_succ])
    refine wpAnyH_ready (rs := [6, 11]) (by kernel_rfl) (by simp) (AllReadyH.cons rfl (fun K hK => ?k6) (AllReadyH.cons rfl (fun K hK => ?kb11) AllReadyH.nil))
    case k6 =>
      refine step_append_lies _ rfl (.tmp 139) (.tmp 144) 25 rfl w.heap.size 35 iA (.agg #[.int .i64 0, .int .i64 0, .slice none 0 0, .slice none 0 0]) 4 64 Try.underlying25 hiA hzA0 hzA1 hzA2 rfl (by decide) (.slice aa ms.length ac) ms.length (ms.flatMap maC1) (by simp [Act.eval]) (own_up HLV.out.1.att CA.out) ⟨W0.heap.size, 0, none⟩ 1 1 [.int .i64 M.r.tx.start, .int .i64 M.r.tx.commit, M.rv, M.wv] (by simp [Act.eval]) rfl (World.news_of_block BA.out) (by intro u hu; simp only [List.mem_cons, List.not_mem_nil, or_false] at hu; rcases hu with rfl | rfl | rfl | rfl <;> first | rfl | assumption) (by omega) (by unfold maxLen; omega) (by omega) (Nat.le_trans HLV.out.1.own.upw.size CA.out.size) _ rfl ?_
      intro g9 c9 w6 hown9 hgrow9 hat9 hlt9
      have AM := Lib.hid (HLV.out.1.att1 HLV.out.2 CA.out hown9 hgrow9 hat9 (Nat.le_refl _))
      have AG := Lib.hid hgrow9
      clear hown9 hgrow9 hat9
      refine hK.out _ _ ?e11s (fun hHeld => ?e11h)
      case e11s => exact six_of AM.out.blk
      clear hK K
      (try simp only [Act.put, List.setIfInBounds_toArray])
      refine wpAnyH_ready (rs := [11]) (by kernel_rfl) (by simp) (AllReadyH.cons rfl (fun K hK => ?ine12) AllReadyH.nil)
      go_simp
      have CB := Lib.hid ((Up.refl w6).alloc (.cells #[.int .i64 M.r.id, .int .i64 M.r.tx.start, .int .i64 M.r.tx.commit, M.rv, M.wv, M.xv] 37))
      have BB := Lib.hid (Blk.new w6 #[.int .i64 M.r.id, .int .i64 M.r.tx.start, .int .i64 M.r.tx.commit, M.rv, M.wv, M.xv] 37)
      refine hK.out _ _ ?e13s (fun hHeld => ?e13h)
      case e13s => exact six_of (AM.out.blk.up CB.out)
      clear hK K
      (try simp only [Act.put, List.setIfInBounds_toArray, List.set_cons_zero, List.set_cons_succ])
      refine wpAnyH_ready (rs := [12]) (by kernel_rfl) (by simp) (AllReadyH.cons rfl (fun K hK => ?ine14) AllReadyH.nil)
      refine step_append_lies _ rfl (.tmp 146) (.tmp 150) 26 rfl w.heap.size 37 iB (.agg #[.int .i64 0, .int .i64 0, .int .i64 0, .slice none 0 0, .slice none 0 0, .slice none 0 0]) 6 96 Try.underlying26 hiB hzB0 hzB1 hzB2 rfl (by decide) (.slice ea ms.length ec) ms.length (ms.flatMap mrC1) (by simp [Act.eval]) (own_up AM.out.fin CB.out) ⟨w6.heap.size, 0, none⟩ 1 1 [.int .i64 M.r.id, .int .i64 M.r.tx.start, .int .i64 M.r.tx.commit, M.rv, M.wv, M.xv] (by simp [Act.eval]) rfl (World.news_of_block BB.out) (by intro u hu; simp only [List.mem_cons, List.not_mem_nil, or_false] at hu; rcases hu with rfl | rfl | rfl | rfl | rfl | rfl <;> first | rfl | assumption) (by omega) (by unfold maxLen; omega) (by omega) (Nat.le_trans HLV.out.1.own.upw.size (Nat.le_trans AM.out.chg.size CB.out.size)) _ rfl ?_
      intro g8 c8 w7 hown8 hgrow8 hat8 hlt8
      have FIN := Lib.hid (HLV.out.1.att2 HLV.out.2 AM.out CB.out hown8 hgrow8 hat8 (Nat.le_refl _))
      clear hown8 hgrow8 hat8
      refine hK.out _ _ ?e15s (fun hHeld => ?e15h)
      case e15s => exact six_of (by obtain ⟨K', h1, h2⟩ := FIN.out; exact h2.blk)
      clear hK K
      (try simp only [Act.put, List.setIfInBounds_toArray])
      refine wpAnyH_take (i := 13) (v := ?e16v) rfl (by kernel_rfl) (by kernel_rfl) (by kernel_rfl) (fun _ _ _ h => h) (Or.inl ⟨by rfl, ?e16y⟩) (by assumption) ?e16r
      case e16y => (intro w hSw; (try dsimp only [Six] at hSw); go_simp; try with_reducible rfl)
      (try simp only [Act.put])
      refine wpAnyH_take (i := 14) (v := ?e17v) rfl (by kernel_rfl) (by kernel_rfl) (by kernel_rfl) (fun _ _ _ h => h) (Or.inl ⟨by rfl, ?e17y⟩) (by assumption) ?e17r
      case e17y => (intro w hSw; (try dsimp only [Six] at hSw); go_simp; try with_reducible rfl)
      (try simp only [Act.put])
      exact wpAnyH_done (by kernel_rfl) (OnNormal.of ⟨_, _, _, _, _, _, FIN, rfl⟩) _
    case kb11 =>
      go_simp
      have CB2 := Lib.hid ((((Up.refl W0).alloc (.cells #[.int .i64 M.r.tx.start, .int .i64 M.r.tx.commit, M.rv, M.wv] 35)).alloc (.cells #[.int .i64 M.r.id, .int .i64 M.r.tx.start, .int .i64 M.r.tx.commit, M.rv, M.wv, M.xv] 37)).drew)
      have BA2 := Lib.hid (((Blk.new W0 #[.int .i64 M.r.tx.start, .int .i64 M.r.tx.commit, M.rv, M.wv] 35).up ((Up.refl _).alloc (.cells #[.int .i64 M.r.id, .int .i64 M.r.tx.start, .int .i64 M.r.tx.commit, M.rv, M.wv, M.xv] 37))).drew)
      have hz2 := (Blk.new (W0.alloc (.cells #[.int .i64 M.r.tx.start, .int .i64 M.r.tx.commit, M.rv, M.wv] 35)) #[.int .i64 M.r.id, .int .i64 M.r.tx.start, .int .i64 M.r.tx.commit, M.rv, M.wv, M.xv] 37).drew
      rw [World.size_alloc] at hz2
      have BI0 := Lib.hid hz2
      clear hz2
      refine hK.out _ _ ?e18s (fun hHeld => ?e18h)
      case e18s => exact six_of (HLV.out.2.blk.up CB2.out)
      clear hK K
      (try simp only [Act.put, List.setIfInBounds_toArray, List.set_cons_zero, List.set_cons_succ])
      refine wpAnyH_ready (rs := [6]) (by kernel_rfl) (by simp) (AllReadyH.cons rfl (fun K hK => ?ine19) AllReadyH.nil)
      refine step_append_lies _ rfl (.tmp 139) (.tmp 144) 25 rfl w.heap.size 35 iA (.agg #[.int .i64 0, .int .i64 0, .slice none 0 0, .slice none 0 0]) 4 64 Try.underlying25 hiA hzA0 hzA1 hzA2 rfl (by decide) (.slice aa ms.length ac) ms.length (ms.flatMap maC1) (by simp [Act.eval]) (own_up HLV.out.1.att CB2.out) ⟨W0.heap.size, 0, none⟩ 1 1 [.int .i64 M.r.tx.start, .int .i64 M.r.tx.commit, M.rv, M.wv] (by simp [Act.eval]) rfl (World.news_of_block BA2.out) (by intro u hu; simp only [List.mem_cons, List.not_mem_nil, or_false] at hu; rcases hu with rfl | rfl | rfl | rfl <;> first | rfl | assumption) (by omega) (by unfold maxLen; omega) (by omega) (Nat.le_trans HLV.out.1.own.upw.size CB2.out.size) _ rfl ?_
      intro g9 c9 w6 hown9 hgrow9 hat9 hlt9
      have AM := Lib.hid (HLV.out.1.att1 HLV.out.2 CB2.out hown9 hgrow9 hat9 (Nat.le_refl _))
      have AG := Lib.hid hgrow9
      clear hown9 hgrow9 hat9
      refine hK.out _ _ ?e20s (fun hHeld => ?e20h)
      case e20s => exact six_of AM.out.blk
      clear hK K
      (try simp only [Act.put, List.setIfInBounds_toArray])
      have BB := Lib.hid (BI0.out.chg ((Chg.refl _ _).grown AG.out fun k hk => .inl hk) fun e => by have := own_lt HLV.out.1.att _ e; omega)
      have CC := Lib.hid (Up.refl w6)
      refine wpAnyH_ready (rs := [12]) (by kernel_rfl) (by simp) (AllReadyH.cons rfl (fun K hK => ?ine21) AllReadyH.nil)
      refine step_append_lies _ rfl (.tmp 146) (.tmp 150) 26 rfl w.heap.size 37 iB (.agg #[.int .i64 0, .int .i64 0, .int .i64 0, .slice none 0 0, .slice none 0 0, .slice none 0 0]) 6 96 Try.underlying26 hiB hzB0 hzB1 hzB2 rfl (by decide) (.slice ea ms.length ec) ms.length (ms.flatMap mrC1) (by simp [Act.eval]) (own_up AM.out.fin CC.out) ⟨W0.heap.size + 1, 0, none⟩ 1 1 [.int .i64 M.r.id, .int .i64 M.r.tx.start, .int .i64 M.r.tx.commit, M.rv, M.wv, M.xv] (by simp [Act.eval]) rfl (World.news_of_block BB.out) (by intro u hu; simp only [List.mem_cons, List.not_mem_nil, or_false] at hu; rcases hu with rfl | rfl | rfl | rfl | rfl | rfl <;> first | rfl | assumption) (by omega) (by unfold maxLen; omega) (by omega) (Nat.le_trans HLV.out.1.own.upw.size (Nat.le_trans AM.out.chg.size CC.out.size)) _ rfl ?_
      intro g8 c8 w7 hown8 hgrow8 hat8 hlt8
      have FIN := Lib.hid (HLV.out.1.att2 HLV.out.2 AM.out CC.out hown8 hgrow8 hat8 (Nat.le_refl _))
      clear hown8 hgrow8 hat8
      refine hK.out _ _ ?e22s (fun hHeld => ?e22h)
      case e22s => exact six_of (by obtain ⟨K', h1, h2⟩ := FIN.out; exact h2.blk)
      clear hK K
      (try simp only [Act.put])
      refine wpAnyH_take (i := 13) (v := ?e23v) rfl (by kernel_rfl) (by kernel_rfl) (by kernel_rfl) (fun _ _ _ h => h) (Or.inl ⟨by rfl, ?e23y⟩) (by assumption) ?e23r
      case e23y => (intro w hSw; (try dsimp only [Six] at hSw); go_simp; try with_reducible rfl)
      (try simp only [Act.put])
      refine wpAnyH_take (i := 14) (v := ?e24v) rfl (by kernel_rfl) (by kernel_rfl) (by kernel_rfl) (fun _ _ _ h => h) (Or.inl ⟨by rfl, ?e24y⟩) (by assumption) ?e24r
      case e24y => (intro w hSw; (try dsimp only [Six] at hSw); go_simp; try with_reducible rfl)
      (try simp only [Act.put])
      exact wpAnyH_done (by kernel_rfl) (OnNormal.of ⟨_, _, _, _, _, _, FIN, rfl⟩) _
  case k11 =>
    go_simp
    have CA := Lib.hid (((Up.refl W0).alloc (.cells #[.int .i64 M.r.id, .int .i64 M.r.tx.start, .int .i64 M.r.tx.commit, M.rv, M.wv, M.xv] 37)).drew)
    refine hK.out _ _ ?e25s (fun hHeld => ?e25h)
    case e25s => exact six_of (HLV.out.2.blk.up CA.out)
    clear hK K
    (try simp only [Act.put, List.setIfInBounds_toArray, List.set_cons_zero, List.set_cons_succ])
    refine wpAnyH_ready (rs := [5]) (by kernel_rfl) (by simp) (AllReadyH.cons rfl (fun K hK => ?ine26) AllReadyH.nil)
    go_simp
    have CB2 := Lib.hid ((((Up.refl W0).alloc (.cells #[.int .i64 M.r.id, .int .i64 M.r.tx.start, .int .i64 M.r.tx.commit, M.rv, M.wv, M.xv] 37)).alloc (.cells #[.int .i64 M.r.tx.start, .int .i64 M.r.tx.commit, M.rv, M.wv] 35)).drew)
    have BI0 := Lib.hid (((Blk.new W0 #[.int .i64 M.r.id, .int .i64 M.r.tx.start, .int .i64 M.r.tx.commit, M.rv, M.wv, M.xv] 37).up ((Up.refl _).alloc (.cells #[.int .i64 M.r.tx.start, .int .i64 M.r.tx.commit, M.rv, M.wv] 35))).drew)
    have hz2 := (Blk.new (W0.alloc (.cells #[.int .i64 M.r.id, .int .i64 M.r.tx.start, .int .i64 M.r.tx.commit, M.rv, M.wv, M.xv] 37)) #[.int .i64 M.r.tx.start, .int .i64 M.r.tx.commit, M.rv, M.wv] 35).drew
    rw [World.size_alloc] at hz2
    have BA2 := Lib.hid hz2
    clear hz2
    refine hK.out _ _ ?e27s (fun hHeld => ?e27h)
    case e27s => exact six_of (HLV.out.2.blk.up CB2.out)
    clear hK K
    (try simp only [Act.put, List.setIfInBounds_toArray, List.set_cons_zero, List.set_cons_succ])
    refine wpAnyH_ready (rs := [6]) (by kernel_rfl) (by simp) (AllReadyH.cons rfl (fun K hK => ?ine28) AllReadyH.nil)
    refine step_append_lies _ rfl (.tmp 139) (.tmp 144) 25 rfl w.heap.size 35 iA (.agg #[.int .i64 0, .int .i64 0, .slice none 0 0, .slice none 0 0]) 4 64 Try.underlying25 hiA hzA0 hzA1 hzA2 rfl (by decide) (.slice aa ms.length ac) ms.length (ms.flatMap maC1) (by simp [Act.eval]) (own_up HLV.out.1.att CB2.out) ⟨W0.heap.size + 1, 0, none⟩ 1 1 [.int .i64 M.r.tx.start, .int .i64 M.r.tx.commit, M.rv, M.wv] (by simp [Act.eval]) rfl (World.news_of_block BA2.out) (by intro u hu; simp only [List.mem_cons, List.not_mem_nil, or_false] at hu; rcases hu with rfl | rfl | rfl | rfl <;> first | rfl | assumption) (by omega) (by unfold maxLen; omega) (by omega) (Nat.le_trans HLV.out.1.own.upw.size CB2.out.size) _ rfl ?_
    intro g9 c9 w6 hown9 hgrow9 hat9 hlt9
    have AM := Lib.hid (HLV.out.1.att1 HLV.out.2 CB2.out hown9 hgrow9 hat9 (Nat.le_refl _))
    have AG := Lib.hid hgrow9
    clear hown9 hgrow9 hat9
    refine hK.out _ _ ?e29s (fun hHeld => ?e29h)
    case e29s => exact six_of AM.out.blk
    clear hK K
    (try simp only [Act.put, List.setIfInBounds_toArray])
    have BB := Lib.hid (BI0.out.chg ((Chg.refl _ _).grown AG.out fun k hk => .inl hk) fun e => by have := own_lt HLV.out.1.att _ e; omega)
    have CC := Lib.hid (Up.refl w6)
    refine wpAnyH_ready (rs := [12]) (by kernel_rfl) (by simp) (AllReadyH.cons rfl (fun K hK => ?ine30) AllReadyH.nil)
    refine step_append_lies _ rfl (.tmp 146) (.tmp 150) 26 rfl w.heap.size 37 iB (.agg #[.int .i64 0, .int .i64 0, .int .i64 0, .slice none 0 0, .slice none 0 0, .slice none 0 0]) 6 96 Try.underlying26 hiB hzB0 hzB1 hzB2 rfl (by decide) (.slice ea ms.length ec) ms.length (ms.flatMap mrC1) (by simp [Act.eval]) (own_up AM.out.fin CC.out) ⟨W0.heap.size, 0, none⟩ 1 1 [.int .i64 M.r.id, .int .i64 M.r.tx.start, .int .i64 M.r.tx.commit, M.rv, M.wv, M.xv] (by simp [Act.eval]) rfl (World.news_of_block BB.out) (by intro u hu; simp only [List.mem_cons, List.not_mem_nil, or_false] at hu; rcases hu with rfl | rfl | rfl | rfl | rfl | rfl <;> first | rfl | assumption) (by omega) (by unfold maxLen; omega) (by omega) (Nat.le_trans HLV.out.1.own.upw.size (Nat.le_trans AM.out.chg.size CC.out.size)) _ rfl ?_
    intro g8 c8 w7 hown8 hgrow8 hat8 hlt8
    have FIN := Lib.hid (HLV.out.1.att2 HLV.out.2 AM.out CC.out hown8 hgrow8 hat8 (Nat.le_refl _))
    clear hown8 hgrow8 hat8
    refine hK.out _ _ ?e31s (fun hHeld => ?e31h)
    case e31s => exact six_of (by obtain ⟨K', h1, h2⟩ := FIN.out; exact h2.blk)
    clear hK K
    (try simp only [Act.put])
    refine wpAnyH_take (i := 13) (v := ?e32v) rfl (by kernel_rfl) (by kernel_rfl) (by kernel_rfl) (fun _ _ _ h => h) (Or.inl ⟨by rfl, ?e32y⟩) (by assumption) ?e32r
    case e32y => (intro w hSw; (try dsimp only [Six] at hSw); go_simp; try with_reducible rfl)
    (try simp only [Act.put])
    refine wpAnyH_take (i := 14) (v := ?e33v) rfl (by kernel_rfl) (by kernel_rfl) (by kernel_rfl) (fun _ _ _ h => h) (Or.inl ⟨by rfl, ?e33y⟩) (by assumption) ?e33r
    case e33y => (intro w hSw; (try dsimp only [Six] at hSw); go_simp; try with_reducible rfl)
    (try simp only [Act.put])
    exact wpAnyH_done (by kernel_rfl) (OnNormal.of ⟨_, _, _, _, _, _, FIN, rfl⟩) _
  --END34
set_option maxRecDepth 100000 in
set_option maxHeartbeats 16000000 in
theorem reg44 {w wk : World} {K1 : Nat → Prop} {p b6 q : Nat} {d dm : Db} {os : List (Option (Nat × MRec))} {va ve : Value} {ms : List MRec} {M : MRec} {s0 : Int} {k : Nat} {st : ByteArray} {v0 v1 v2 v4 v5 v6 v7 v8 v9 v11 v12 v13 v14 v15 v16 v17 v18 v19 v21 v22 v23 v24 v25 v26 v27 v28 v29 v30 v31 v32 v33 v34 v35 v36 v37 v38 v39 v40 v41 v42 v43 v44 v45 v46 v47 v48 v49 v50 v51 v52 v53 v54 v55 v56 v57 v58 v59 v60 v61 v62 v63 v64 v65 v66 v67 v68 v69 v70 v71 v72 v73 v74 v75 v76 v77 v78 v79 v80 v81 v82 v83 v84 v85 v86 v87 v88 v89 v90 v91 v92 v93 v94 v95 v96 v97 v98 v99 v100 v101 v102 v103 v104 v105 v106 v107 v108 v109 v110 v111 v112 v113 v114 v115 v116 v117 v118 v119 v120 v121 v122 v123 v124 v125 v126 v127 v128 v129 v130 v131 v132 v133 v134 v135 v136 v137 v138 v139 v140 v141 v142 v143 v144 v145 v146 v147 v148 v149 v150 v151 v152 v153 v154 v155 v156 v157 v158 v159 v160 v161 v162 v163 v164 v165 v166 v167 v168 v169 v170 v171 v172 v173 v174 v175 v176 v177 v178 v179 v180 v181 v182 v183 v184 v185 v186 v187 v188 v189 v190 v191 v192 v193 v194 v195 v196 v197 v198 v199 v200 v201 v202 v203 v204 v205 v206 v207 v208 v209 v210 v211 v212 v213 v214 v215 v216 v217 v218 v219 v220 : Value} (hlk : k < M.r.tx.writes.length) (hwl3 : M.r.tx.writes.length ≤ 3) (HKEY : Hid (∀ k, k ∈ M.r.tx.writes → k.size ≤ 24)) (HSTX : Hid (st = M.r.tx.writes.getD k ByteArray.empty)) (HP : Hid (PSt w wk K1 p b6 d dm os va ve ms q M s0 k)) {A : Act} (hA : A = ⟨#[v0, v1, v2, .pointer (some ⟨p, 0, none⟩), v4, v5, v6, v7, v8, v9, .pointer (some ⟨q, 0, none⟩), v11, v12, v13, v14, v15, v16, v17, v18, v19, .string st, v21, v22, v23, v24, v25, v26, v27, v28, v29, v30, v31, v32, v33, v34, v35, v36, v37, v38, v39, v40, v41, v42, v43, v44, v45, v46, v47, v48, v49, v50, v51, v52, v53, v54, v55, v56, v57, v58, v59, v60, v61, v62, v63, v64, v65, v66, v67, v68, v69, v70, v71, v72, v73, v74, v75, v76, v77, v78, v79, v80, v81, v82, v83, v84, v85, v86, v87, v88, v89, v90, v91, v92, v93, v94, v95, v96, v97, v98, v99, v100, v101, v102, v103, v104, v105, v106, v107, v108, v109, v110, v111, v112, v113, v114, v115, v116, v117, v118, v119, v120, v121, v122, v123, v124, v125, v126, v127, v128, v129, v130, v131, v132, v133, v134, v135, v136, v137, v138, v139, v140, v141, v142, v143, v144, v145, v146, v147, v148, v149, v150, v151, v152, v153, v154, v155, v156, v157, v158, v159, v160, v161, v162, v163, v164, v165, v166, v167, v168, v169, v170, v171, v172, v173, v174, v175, v176, v177, v178, v179, v180, v181, v182, v183, v184, v185, v186, v187, v188, v189, v190, v191, v192, v193, v194, v195, v196, v197, v198, v199, v200, v201, v202, v203, v204, v205, v206, v207, v208, v209, v210, v211, v212, v213, v214, v215, v216, v217, v218, v219, v220], []⟩) :
    (codeR 44).wp Try.prog (OnNormal (fun a' W => ∃ (v201 : Value) (dm' : Db), Hid (PSt w W K1 p b6 d dm' os va ve ms q M s0 (k + 1)) ∧ a' = ((((((((((((((A.put (some 190) (.pointer (some ⟨p, 0, none⟩))).put (some 191) (.pointer (some ⟨q, 0, none⟩))).put (some 192) (.pointer (some ⟨q, 0, none⟩))).put (some 193) (.pointer (some ⟨q, 0, none⟩))).put (some 194) (.int .i64 M.r.id)).put (some 195) (.string st)).put (some 196) (.pointer (some ⟨q, 0, none⟩))).put (some 197) (.pointer (some ⟨q, 0, none⟩))).put (some 198) (.agg #[.int .i64 M.r.id, .int .i64 M.r.tx.start, .int .i64 M.r.tx.commit, M.rv, M.wv, M.xv])).put (some 199) (.int .i64 (resV M.r))).put (some 200) (.agg #[.int .i64 1, .int .i64 (resV M.r), .string ByteArray.empty])).put (some 201) v201).put (some 202) (.int .i64 0)).put (some 203) (.bool false)))) A wk := by
  subst hA
  conv => arg 2; whnf
  simp only [Act.put, List.setIfInBounds_toArray, List.set_cons_zero, List.set_cons_succ]
  --REG44
  refine wp_region_held_drew (S := fun w' => Six w' q M) (by kernel_rfl) ?hs1 (fun hHeld => ?hr1)
  case hs1 => exact six_of HP.out.box.blk.drew
  refine wpAnyH_take (i := 0) (v := ?f1v) rfl (by kernel_rfl) (by kernel_rfl) (by kernel_rfl) (fun _ _ _ h => h) (Or.inl ⟨by rfl, ?f1y⟩) (by assumption) ?f1r
  case f1y => (intro w hSw; (try dsimp only [Six] at hSw); go_simp; try with_reducible rfl)
  (try simp only [Act.put, List.setIfInBounds_toArray])
  refine wpAnyH_take (i := 1) (v := ?f2v) rfl (by kernel_rfl) (by kernel_rfl) (by kernel_rfl) (fun _ _ _ h => h) (Or.inl ⟨by rfl, ?f2y⟩) (by assumption) ?f2r
  case f2y => (intro w hSw; (try dsimp only [Six] at hSw); go_simp; try with_reducible rfl)
  (try simp only [Act.put])
  refine wpAnyH_take (i := 2) (v := ?f3v) rfl (by kernel_rfl) (by kernel_rfl) (by kernel_rfl) (fun _ _ _ h => h) (Or.inl ⟨by rfl, ?f3y⟩) (by assumption) ?f3r
  case f3y => (intro w hSw; (try dsimp only [Six] at hSw); go_simp; try with_reducible rfl)
  (try simp only [Act.put])
  refine wpAnyH_take (i := 3) (v := ?f4v) rfl (by kernel_rfl) (by kernel_rfl) (by kernel_rfl) (fun _ _ _ h => h) (Or.inl ⟨by rfl, ?f4y⟩) (by assumption) ?f4r
  case f4y => (intro w hSw; (try dsimp only [Six] at hSw); go_simp; try with_reducible rfl)
  (try simp only [Act.put])
  refine wpAnyH_take (i := 4) (v := ?f5v) rfl (by kernel_rfl) (by kernel_rfl) (by kernel_rfl) (fun _ _ _ h => h) (Or.inl ⟨by rfl, ?f5y⟩) (by assumption) ?f5r
  case f5y => (intro w hSw; (try dsimp only [Six] at hSw); go_simp; try with_reducible rfl)
  (try simp only [Act.put])
  refine wpAnyH_take (i := 5) (v := ?f6v) rfl (by kernel_rfl) (by kernel_rfl) (by kernel_rfl) (fun _ _ _ h => h) (Or.inl ⟨by rfl, ?f6y⟩) (by assumption) ?f6r
  case f6y => (intro w hSw; (try dsimp only [Six] at hSw); go_simp; try with_reducible rfl)
  (try simp only [Act.put])
  refine wpAnyH_take (i := 6) (v := ?f7v) rfl (by kernel_rfl) (by kernel_rfl) (by kernel_rfl) (fun _ _ _ h => h) (Or.inl ⟨by rfl, ?f7y⟩) (by assumption) ?f7r
  case f7y => (intro w hSw; (try dsimp only [Six] at hSw); go_simp; try with_reducible rfl)
  (try simp only [Act.put])
  refine wpAnyH_take (i := 7) (v := ?f8v) rfl (by kernel_rfl) (by kernel_rfl) (by kernel_rfl) (fun _ _ _ h => h) (Or.inl ⟨by rfl, ?f8y⟩) (by assumption) ?f8r
  case f8y => (intro w hSw; (try dsimp only [Six] at hSw); go_simp; try with_reducible rfl)
  (try simp only [Act.put])
  refine wpAnyH_take (i := 8) (v := ?f9v) rfl (by kernel_rfl) (by kernel_rfl) (by kernel_rfl) (fun _ _ _ h => h) (Or.inl ⟨by rfl, ?f9y⟩) (by assumption) ?f9r
  case f9y => (intro w hSw; (try dsimp only [Six] at hSw); go_simp; try with_reducible rfl)
  (try simp only [Act.put])
  refine wpAnyH_ready (rs := [9]) (by kernel_rfl) (by simp) (AllReadyH.cons rfl (fun K hK => ?fne10) AllReadyH.nil)
  go_simp
  go_wp2_with (first
    | (go_at_call 12; refine (result_any _ M.r _ (HP.out.box.up ((Up.refl wk).drew)).recv).mono ?_; rintro e w8 ⟨rfl, hu8⟩; have HU8 : Hid (Up wk w8) := ((Up.refl wk).drew).trans hu8; clear hu8)
    | fail)
  refine hK.out _ _ ?f11s (fun hHeld => ?f11h)
  case f11s => exact six_of (HP.out.box.blk.up HU8.out)
  clear hK K
  (try simp only [Act.put, List.setIfInBounds_toArray, List.set_cons_zero, List.set_cons_succ])
  refine wpAnyH_ready (rs := [10]) (by kernel_rfl) (by simp) (AllReadyH.cons rfl (fun K hK => ?fne12) AllReadyH.nil)
  go_simp
  go_wp2_with (first
    | (go_at_call 11; refine (rvint_any (resV M.r) _).mono ?_; rintro e w9 ⟨rfl, hu9⟩; have HU9 : Hid (Up wk w9) := HU8.out.trans hu9; clear hu9)
    | fail)
  refine hK.out _ _ ?f13s (fun hHeld => ?f13h)
  case f13s => exact six_of (HP.out.box.blk.up HU9.out)
  clear hK K
  (try simp only [Act.put, List.setIfInBounds_toArray, List.set_cons_zero, List.set_cons_succ])
  refine wpAnyH_ready (rs := [11]) (by kernel_rfl) (by simp) (AllReadyH.cons rfl (fun K hK => ?fne14) AllReadyH.nil)
  go_simp
  have HPU := Lib.hid (HP.out.putc hlk hwl3 HKEY.out (HU9.out.alloc (.cells #[.int .i64 1, .int .i64 (resV M.r), .string ByteArray.empty] 47)) (Blk.new w9 #[.int .i64 1, .int .i64 (resV M.r), .string ByteArray.empty] 47))
  rw [← HSTX.out] at HPU
  refine hK.out _ _ ?f15s (fun hHeld => ?f15h)
  case f15s => exact six_of (HP.out.box.blk.up (HU9.out.alloc _))
  clear hK K
  (try simp only [Act.put, List.setIfInBounds_toArray, List.set_cons_zero, List.set_cons_succ])
  refine wpAnyH_ready (rs := [12]) (by kernel_rfl) (by simp) (AllReadyH.cons rfl (fun K hK => ?fne16) AllReadyH.nil)
  go_simp
  go_wp2_with (first
    | (go_at_call 10; refine HPU.out.mono ?_; rintro e w10 ⟨rfl, dm', hps⟩; have HPS := Lib.hid hps; clear hps)
    | fail)
  refine hK.out _ _ ?f17s (fun hHeld => ?f17h)
  case f17s => exact six_of HPS.out.box.blk
  clear hK K
  (try simp only [Act.put, List.setIfInBounds_toArray, List.set_cons_zero, List.set_cons_succ])
  refine wpAnyH_take (i := 13) (v := ?f18v) rfl (by kernel_rfl) (by kernel_rfl) (by kernel_rfl) (fun _ _ _ h => h) (Or.inl ⟨by rfl, ?f18y⟩) (by assumption) ?f18r
  case f18y => (intro w hSw; (try dsimp only [Six] at hSw); go_simp; try with_reducible rfl)
  (try simp only [Act.put, List.setIfInBounds_toArray])
  exact wpAnyH_done (by kernel_rfl) (OnNormal.of ⟨_, dm', HPS, rfl⟩) _
  --END44
end Go.Proofs.Ytnbhdpmhgamjfaa.Sn
