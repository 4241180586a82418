import Derived.Test.YtkcgbenhnhbhhabDeskSw2
import Derived.Test.YtkcgbenhnhbhhabDeskSw3
import Derived.Test.YtkcgbenhnhbhhabDeskSw4
import Derived.Test.YtkcgbenhnhbhhabDeskSw5
import Derived.Test.YtkcgbenhnhbhhabDeskSw9
import Derived.Test.YtkcgbenhnhbhhabDeskSw7
import Derived.Deep.RegionHeld3
import Derived.BigQuiet
import Derived.Deep.QuietTactic
namespace Go.Proofs.Ytkcgbenhnhbhhab
open Go Go.RowKit
set_option linter.unusedVariables false
set_option linter.unusedSimpArgs false

set_option maxRecDepth 1000000 in
set_option maxHeartbeats 4000000 in
theorem sw_all {W : World} {c q B d k : Nat} {kind client num : Int} {t : Bool} {v0 v1 v2 v3 v4 v5 v6 v7 v8 v11 v14 v15 v16 v17 v18 v19 v20 v21 v22 v23 v24 v25 v26 v27 v28 v29 v30 v31 v32 v33 v34 v35 v36 v37 v38 v39 v40 v41 v42 v43 v44 v45 v46 v47 v48 v49 v50 v51 v52 v53 v54 v55 v56 v57 v58 v59 v60 v61 v62 v64 v65 v66 v67 v68 v69 v70 v71 v72 v73 v74 v75 v76 v77 v78 v79 v80 v81 v82 v83 v84 v85 v86 v87 v88 v89 v90 v91 v92 v93 v94 v95 v96 v97 v98 v99 v100 v101 v102 v103 v104 v105 v106 v107 v108 v109 v110 v111 v112 v113 v114 v115 v116 v117 v118 v119 v120 v121 v122 v123 v124 v125 v126 v127 v128 v129 v130 v131 v132 v133 v134 v135 v136 v137 v138 v139 v140 v141 v142 v143 v144 v145 v146 v147 v148 v149 v150 v151 v152 v153 v154 v155 v156 v157 v158 v159 v160 v161 v162 v163 v164 v165 v166 v167 v168 v169 v170 v171 v172 v173 v174 v175 v176 v177 v178 v179 v180 v181 v182 v183 v184 v185 v186 v187 v188 v189 v190 v191 v192 v193 v194 v195 v196 v197 v198 v199 v200 v201 v202 v203 v204 v205 v206 v207 v208 v209 v210 v211 v212 v213 v214 v215 v216 v217 v218 v219 v220 v221 v222 v223 v224 v225 v226 v227 v228 v229 v230 v231 v232 v233 v234 v235 v236 v237 v238 v239 v240 v241 v242 v243 v244 v245 v246 v247 v248 v249 v250 v251 v252 v253 v254 v255 v256 v257 v258 v259 v260 v261 v262 v263 v264 v265 v266 v267 v268 v269 v270 v271 v272 v273 v274 v275 v276 v277 v278 v279 v280 v281 v282 v283 v284 v285 v286 v287 v288 v289 v290 v291 v292 v293 v294 v295 v296 v297 v298 v299 v300 v301 v302 v303 v304 v305 v306 v307 v308 v309 v310 v311 v312 v313 v314 v315 v316 v317 v318 v319 v320 v321 v322 v323 v324 v325 v326 v327 v328 v329 v330 : Value} {D : DeskD} {R1 : RD} {w5 : World} {K' : Act → World → Prop} {Q' : Exit → Act → World → Prop}
    (hK : ∀ a w, SwR W c q B d k kind client num t v0 v1 v2 v3 v4 v5 v7 v8 v11 v20 v21 v22 v23 v24 v25 v26 v27 v28 v29 v30 v31 v32 v33 v34 v35 v36 v37 v38 v39 v40 v330 a w → K' a w) (h6 : Sat w5 [rdP q R1, own B (.cells #[.int .i64 kind, .int .i64 client, .int .i64 num] 29 (0, 0)), deskP d D, oldH W]) (k6 : Kp W w5) (hR1 : Hid (DRel c 1 D R1)) (hacc0 : 0 ≤ D.acc) (hacc : D.acc ≤ 2 * k) (hk : k ≤ 60) (HT : Hid (t = (decide (0 ≤ client) && decide (client < (c : Int))))) :
    Code.wp Try.prog swCode (Exit.then K' Q') ⟨#[v0, v1, v2, v3, v4, v5, v6, v7, v8, .pointer (some ⟨d, 0, none⟩), .pointer (some ⟨q, 0, none⟩), v11, .pointer (some ⟨B, 0, none⟩), .bool t, v14, v15, v16, v17, v18, v19, v20, v21, v22, v23, v24, v25, v26, v27, v28, v29, v30, v31, v32, v33, v34, v35, v36, v37, v38, v39, v40, v41, v42, v43, v44, v45, v46, v47, v48, v49, v50, v51, v52, v53, v54, v55, v56, v57, v58, v59, v60, v61, v62, .int .i64 kind, v64, v65, v66, v67, v68, v69, v70, v71, v72, v73, v74, v75, v76, v77, v78, v79, v80, v81, v82, v83, v84, v85, v86, v87, v88, v89, v90, v91, v92, v93, v94, v95, v96, v97, v98, v99, v100, v101, v102, v103, v104, v105, v106, v107, v108, v109, v110, v111, v112, v113, v114, v115, v116, v117, v118, v119, v120, v121, v122, v123, v124, v125, v126, v127, v128, v129, v130, v131, v132, v133, v134, v135, v136, v137, v138, v139, v140, v141, v142, v143, v144, v145, v146, v147, v148, v149, v150, v151, v152, v153, v154, v155, v156, v157, v158, v159, v160, v161, v162, v163, v164, v165, v166, v167, v168, v169, v170, v171, v172, v173, v174, v175, v176, v177, v178, v179, v180, v181, v182, v183, v184, v185, v186, v187, v188, v189, v190, v191, v192, v193, v194, v195, v196, v197, v198, v199, v200, v201, v202, v203, v204, v205, v206, v207, v208, v209, v210, v211, v212, v213, v214, v215, v216, v217, v218, v219, v220, v221, v222, v223, v224, v225, v226, v227, v228, v229, v230, v231, v232, v233, v234, v235, v236, v237, v238, v239, v240, v241, v242, v243, v244, v245, v246, v247, v248, v249, v250, v251, v252, v253, v254, v255, v256, v257, v258, v259, v260, v261, v262, v263, v264, v265, v266, v267, v268, v269, v270, v271, v272, v273, v274, v275, v276, v277, v278, v279, v280, v281, v282, v283, v284, v285, v286, v287, v288, v289, v290, v291, v292, v293, v294, v295, v296, v297, v298, v299, v300, v301, v302, v303, v304, v305, v306, v307, v308, v309, v310, v311, v312, v313, v314, v315, v316, v317, v318, v319, v320, v321, v322, v323, v324, v325, v326, v327, v328, v329, v330], []⟩ w5 := by
  have hreps := hR1.out.rlen
  have hin : (t = false ∧ (client < 0 ∨ (c : Int) ≤ client)) ∨ (t = true ∧ ∃ i : Nat, client = i ∧ i < c) := by
    have ht := HT.out
    by_cases h : 0 ≤ client ∧ client < (c : Int)
    · right
      refine ⟨by rw [ht]; simpa using h, client.toNat, by omega, by omega⟩
    · left
      refine ⟨by rw [ht]; simp only [Bool.and_eq_false_iff, decide_eq_false_iff_not]; omega, by omega⟩
  by_cases z0 : kind = 0
  · exact sw_0 hK h6 k6 hR1 hacc0 hacc hk z0
  by_cases z1 : kind = 1
  · exact sw_1 hK h6 k6 hR1 hacc0 hacc hk z1
  by_cases z2 : kind = 2
  · exact sw_2 hK h6 k6 hR1 hacc0 hacc hk z2
  by_cases z3 : kind = 3
  · exact sw_3 hK h6 k6 hR1 hacc0 hacc hk z3
  by_cases z4 : kind = 4
  · rcases hin with ⟨ht, hi⟩ | ⟨ht, i, hi, hic⟩
    · exact sw_4n hK h6 k6 hR1 hacc0 hacc hk z4 ht hi
    · exact sw_4 hK h6 k6 hR1 hacc0 hacc hk z4 ht i hi hic
  by_cases z5 : kind = 5
  · rcases hin with ⟨ht, hi⟩ | ⟨ht, i, hi, hic⟩
    · exact sw_5n hK h6 k6 hR1 hacc0 hacc hk z5 ht hi
    · exact sw_5 hK h6 k6 hR1 hacc0 hacc hk z5 ht i hi hic
  by_cases z6 : kind = 6
  · cases hs : R1.shut with
    | true => exact sw_6s hK h6 k6 hR1 hacc0 hacc hk z6 hs
    | false =>
      by_cases hf : (R1.l.length : Int) = R1.most
      · exact sw_6f hK h6 k6 hR1 hacc0 hacc hk z6 hs hf
      · exact sw_6 hK h6 k6 hR1 hacc0 hacc hk z6 hs hf
  by_cases z7 : kind = 7
  · rcases hm : D.msgs with _ | ⟨m, ms⟩
    · exact sw_7n hK h6 k6 hR1 hacc0 hacc hk z7 hm
    · exact sw_7 hK h6 k6 hR1 hacc0 hacc hk z7 m ms hm
  by_cases z8 : kind = 8
  · exact sw_8 hK h6 k6 hR1 hacc0 hacc hk z8
  by_cases z9 : kind = 9
  · rcases hin with ⟨ht, hi⟩ | ⟨ht, i, hi, hic⟩
    · exact sw_9n hK h6 k6 hR1 hacc0 hacc hk z9 ht hi
    · by_cases hn : 0 < num
      · exact sw_9 hK h6 k6 hR1 hacc0 hacc hk z9 ht i hi hic hn (by omega)
      by_cases hn2 : num = 0
      · exact sw_9z hK h6 k6 hR1 hacc0 hacc hk z9 ht i hi hic hn2
      · exact sw_9m hK h6 k6 hR1 hacc0 hacc hk z9 ht i hi hic (by omega) (by omega)
  have nb : ∀ j : Int, kind ≠ j → (kind == j) = false := fun j h => by simpa using h
  rcases hin with ⟨ht, hi⟩ | ⟨ht, i, hi, hic⟩
  · exact sw_dn hK h6 k6 hR1 hacc0 hacc hk (nb _ z0) (nb _ z1) (nb _ z2) (nb _ z3) (nb _ z4) (nb _ z5) (nb _ z6) (nb _ z7) (nb _ z8) (nb _ z9) ht hi
  · obtain ⟨y, hy⟩ : ∃ y, R1.reps[i]? = some y := ⟨R1.reps[i]'(by rw [hreps]; exact hic), by simp⟩
    by_cases hn : 0 ≤ y
    · exact sw_dsome hK h6 k6 hR1 hacc0 hacc hk (nb _ z0) (nb _ z1) (nb _ z2) (nb _ z3) (nb _ z4) (nb _ z5) (nb _ z6) (nb _ z7) (nb _ z8) (nb _ z9) ht i hi hic y hy hn
    · exact sw_dnone hK h6 k6 hR1 hacc0 hacc hk (nb _ z0) (nb _ z1) (nb _ z2) (nb _ z3) (nb _ z4) (nb _ z5) (nb _ z6) (nb _ z7) (nb _ z8) (nb _ z9) ht i hi hic y hy (by omega)

end Go.Proofs.Ytkcgbenhnhbhhab
