import Derived.Test.YtkcgbenhnhbhhabDesk11
import Derived.Deep.CutRange
import Derived.Deep.CutBlock
import Derived.BigQuiet
import Derived.Deep.QuietTactic
namespace Go.Proofs.Ytkcgbenhnhbhhab
open Go Go.RowKit
set_option linter.unusedVariables false
set_option linter.unusedSimpArgs false

def findSeq (n : Nat) : Code → Option Code
  | .seq (.region m ops b) c => if m = n then some (.seq (.region m ops b) c) else findSeq n c
  | .seq a b => match findSeq n a with
    | some c => some c
    | none => findSeq n b
  | .block _ c => findSeq n c
  | .loop c => findSeq n c
  | .scope c => findSeq n c
  | .cond _ a b => match findSeq n a with
    | some c => some c
    | none => findSeq n b
  | _ => none
noncomputable def restCode : Code := ((Try.f3.body.bind (findSeq 69)).getD .skip)

set_option maxRecDepth 1000000 in
def RestR (W : World) (q B d : Nat) (kind client num : Int) (t : Bool) (D : DeskD) (R : RD) (v0 v1 v2 v3 v4 v5 v6 v7 v8 v11 v14 v15 v16 v17 v18 v19 v21 v22 v23 v24 v25 v26 v27 v28 v29 v30 v31 v32 v33 v34 v35 v36 v37 v38 v39 v40 v41 v42 v43 v44 v45 v46 v47 v48 v49 v50 v51 v52 v53 v54 v55 v56 v57 v58 v59 v60 v61 v62 v63 v64 v65 v66 v67 v68 v69 v70 v71 v72 v73 v74 v75 v76 v77 v78 v79 v80 v81 v82 v83 v84 v85 v86 v87 v88 v89 v90 v91 v92 v93 v94 v95 v96 v97 v98 v99 v100 v101 v102 v103 v104 v105 v106 v107 v108 v109 v110 v111 v112 v113 v114 v115 v116 v117 v118 v119 v120 v121 v122 v123 v124 v125 v126 v127 v128 v129 v130 v131 v132 v133 v134 v135 v136 v137 v138 v139 v140 v141 v142 v143 v144 v145 v146 v147 v148 v149 v150 v151 v152 v153 v154 v155 v156 v157 v158 v159 v160 v161 v162 v163 v164 v165 v166 v167 v168 v169 v170 v171 v172 v173 v174 v175 v176 v177 v178 v179 v180 v181 v182 v183 v184 v185 v186 v187 v188 v189 v190 v191 v192 v193 v194 v195 v196 v197 v198 v199 v200 v201 v202 v203 v204 v205 v206 v207 v208 v209 v210 v211 v212 v213 v214 v215 v216 v217 v218 v219 v220 v221 v222 v223 v224 v225 v226 v227 v228 v229 v230 v231 v232 v233 v234 v235 v236 v237 v238 v239 v240 v241 v242 v243 v244 v245 v246 v247 v248 v249 v250 v251 v252 v253 v254 v255 v256 v257 v258 v259 v260 v261 v262 v263 v264 v265 v266 v267 v268 v269 v270 v271 v272 v273 v274 v275 v276 v277 v278 v279 v280 v281 v282 v283 v284 v285 v286 v287 v288 v289 v290 v291 v292 v293 v294 v330 : Value) (a' : Act) (w' : World) : Prop := ∃ u20 u295 u296 u297 u298 u299 u300 u301 u302 u303 u304 u305 u306 u307 u308 u309 u310 u311 u312 u313 u314 u315 u316 u317 u318 u319 u320 u321 u322 u323 u324 u325 u326 u327 u328 u329 : Value, (Sat w' [rdP q R, own B (.cells #[.int .i64 kind, .int .i64 client, .int .i64 num] 29 (0, 0)), deskP d D, oldH W] ∧ Kp W w') ∧ a' = ⟨#[v0, v1, v2, v3, v4, v5, v6, v7, v8, .pointer (some ⟨d, 0, none⟩), .pointer (some ⟨q, 0, none⟩), v11, .pointer (some ⟨B, 0, none⟩), .bool t, v14, v15, v16, v17, v18, v19, u20, v21, v22, v23, v24, v25, v26, v27, v28, v29, v30, v31, v32, v33, v34, v35, v36, v37, v38, v39, v40, v41, v42, v43, v44, v45, v46, v47, v48, v49, v50, v51, v52, v53, v54, v55, v56, v57, v58, v59, v60, v61, v62, v63, v64, v65, v66, v67, v68, v69, v70, v71, v72, v73, v74, v75, v76, v77, v78, v79, v80, v81, v82, v83, v84, v85, v86, v87, v88, v89, v90, v91, v92, v93, v94, v95, v96, v97, v98, v99, v100, v101, v102, v103, v104, v105, v106, v107, v108, v109, v110, v111, v112, v113, v114, v115, v116, v117, v118, v119, v120, v121, v122, v123, v124, v125, v126, v127, v128, v129, v130, v131, v132, v133, v134, v135, v136, v137, v138, v139, v140, v141, v142, v143, v144, v145, v146, v147, v148, v149, v150, v151, v152, v153, v154, v155, v156, v157, v158, v159, v160, v161, v162, v163, v164, v165, v166, v167, v168, v169, v170, v171, v172, v173, v174, v175, v176, v177, v178, v179, v180, v181, v182, v183, v184, v185, v186, v187, v188, v189, v190, v191, v192, v193, v194, v195, v196, v197, v198, v199, v200, v201, v202, v203, v204, v205, v206, v207, v208, v209, v210, v211, v212, v213, v214, v215, v216, v217, v218, v219, v220, v221, v222, v223, v224, v225, v226, v227, v228, v229, v230, v231, v232, v233, v234, v235, v236, v237, v238, v239, v240, v241, v242, v243, v244, v245, v246, v247, v248, v249, v250, v251, v252, v253, v254, v255, v256, v257, v258, v259, v260, v261, v262, v263, v264, v265, v266, v267, v268, v269, v270, v271, v272, v273, v274, v275, v276, v277, v278, v279, v280, v281, v282, v283, v284, v285, v286, v287, v288, v289, v290, v291, v292, v293, v294, u295, u296, u297, u298, u299, u300, u301, u302, u303, u304, u305, u306, u307, u308, u309, u310, u311, u312, u313, u314, u315, u316, u317, u318, u319, u320, u321, u322, u323, u324, u325, u326, u327, u328, u329, v330], []⟩

set_option maxRecDepth 1000000 in
set_option maxHeartbeats 4000000 in
theorem rest_n {W : World} {c q B d : Nat} {kind client num : Int} {t : Bool} {v0 v1 v2 v3 v4 v5 v6 v7 v8 v11 v14 v15 v16 v17 v18 v19 v20 v21 v22 v23 v24 v25 v26 v27 v28 v29 v30 v31 v32 v33 v34 v35 v36 v37 v38 v39 v40 v41 v42 v43 v44 v45 v46 v47 v48 v49 v50 v51 v52 v53 v54 v55 v56 v57 v58 v59 v60 v61 v62 v63 v64 v65 v66 v67 v68 v69 v70 v71 v72 v73 v74 v75 v76 v77 v78 v79 v80 v81 v82 v83 v84 v85 v86 v87 v88 v89 v90 v91 v92 v93 v94 v95 v96 v97 v98 v99 v100 v101 v102 v103 v104 v105 v106 v107 v108 v109 v110 v111 v112 v113 v114 v115 v116 v117 v118 v119 v120 v121 v122 v123 v124 v125 v126 v127 v128 v129 v130 v131 v132 v133 v134 v135 v136 v137 v138 v139 v140 v141 v142 v143 v144 v145 v146 v147 v148 v149 v150 v151 v152 v153 v154 v155 v156 v157 v158 v159 v160 v161 v162 v163 v164 v165 v166 v167 v168 v169 v170 v171 v172 v173 v174 v175 v176 v177 v178 v179 v180 v181 v182 v183 v184 v185 v186 v187 v188 v189 v190 v191 v192 v193 v194 v195 v196 v197 v198 v199 v200 v201 v202 v203 v204 v205 v206 v207 v208 v209 v210 v211 v212 v213 v214 v215 v216 v217 v218 v219 v220 v221 v222 v223 v224 v225 v226 v227 v228 v229 v230 v231 v232 v233 v234 v235 v236 v237 v238 v239 v240 v241 v242 v243 v244 v245 v246 v247 v248 v249 v250 v251 v252 v253 v254 v255 v256 v257 v258 v259 v260 v261 v262 v263 v264 v265 v266 v267 v268 v269 v270 v271 v272 v273 v274 v275 v276 v277 v278 v279 v280 v281 v282 v283 v284 v285 v286 v287 v288 v289 v290 v291 v292 v293 v294 v295 v296 v297 v298 v299 v300 v301 v302 v303 v304 v305 v306 v307 v308 v309 v310 v311 v312 v313 v314 v315 v316 v317 v318 v319 v320 v321 v322 v323 v324 v325 v326 v327 v328 v329 v330 : Value} {D : DeskD} {R : RD} {w5 : World} {K' : Act → World → Prop} {Q' : Exit → Act → World → Prop}
    (hK : ∀ a w, RestR W q B d kind client num t D R v0 v1 v2 v3 v4 v5 v6 v7 v8 v11 v14 v15 v16 v17 v18 v19 v21 v22 v23 v24 v25 v26 v27 v28 v29 v30 v31 v32 v33 v34 v35 v36 v37 v38 v39 v40 v41 v42 v43 v44 v45 v46 v47 v48 v49 v50 v51 v52 v53 v54 v55 v56 v57 v58 v59 v60 v61 v62 v63 v64 v65 v66 v67 v68 v69 v70 v71 v72 v73 v74 v75 v76 v77 v78 v79 v80 v81 v82 v83 v84 v85 v86 v87 v88 v89 v90 v91 v92 v93 v94 v95 v96 v97 v98 v99 v100 v101 v102 v103 v104 v105 v106 v107 v108 v109 v110 v111 v112 v113 v114 v115 v116 v117 v118 v119 v120 v121 v122 v123 v124 v125 v126 v127 v128 v129 v130 v131 v132 v133 v134 v135 v136 v137 v138 v139 v140 v141 v142 v143 v144 v145 v146 v147 v148 v149 v150 v151 v152 v153 v154 v155 v156 v157 v158 v159 v160 v161 v162 v163 v164 v165 v166 v167 v168 v169 v170 v171 v172 v173 v174 v175 v176 v177 v178 v179 v180 v181 v182 v183 v184 v185 v186 v187 v188 v189 v190 v191 v192 v193 v194 v195 v196 v197 v198 v199 v200 v201 v202 v203 v204 v205 v206 v207 v208 v209 v210 v211 v212 v213 v214 v215 v216 v217 v218 v219 v220 v221 v222 v223 v224 v225 v226 v227 v228 v229 v230 v231 v232 v233 v234 v235 v236 v237 v238 v239 v240 v241 v242 v243 v244 v245 v246 v247 v248 v249 v250 v251 v252 v253 v254 v255 v256 v257 v258 v259 v260 v261 v262 v263 v264 v265 v266 v267 v268 v269 v270 v271 v272 v273 v274 v275 v276 v277 v278 v279 v280 v281 v282 v283 v284 v285 v286 v287 v288 v289 v290 v291 v292 v293 v294 v330 a w → K' a w) (h7 : Sat w5 [rdP q R, own B (.cells #[.int .i64 kind, .int .i64 client, .int .i64 num] 29 (0, 0)), deskP d D, oldH W]) (k7 : Kp W w5) (hR' : Hid (DRel c 0 D R)) (ht : t = false) (hi : client < 0 ∨ (c : Int) ≤ client) :
    Code.wp Try.prog restCode (Exit.inBlock 1 (Exit.then K' Q')) ⟨#[v0, v1, v2, v3, v4, v5, v6, v7, v8, .pointer (some ⟨d, 0, none⟩), .pointer (some ⟨q, 0, none⟩), v11, .pointer (some ⟨B, 0, none⟩), .bool t, v14, v15, v16, v17, v18, v19, v20, v21, v22, v23, v24, v25, v26, v27, v28, v29, v30, v31, v32, v33, v34, v35, v36, v37, v38, v39, v40, v41, v42, v43, v44, v45, v46, v47, v48, v49, v50, v51, v52, v53, v54, v55, v56, v57, v58, v59, v60, v61, v62, v63, v64, v65, v66, v67, v68, v69, v70, v71, v72, v73, v74, v75, v76, v77, v78, v79, v80, v81, v82, v83, v84, v85, v86, v87, v88, v89, v90, v91, v92, v93, v94, v95, v96, v97, v98, v99, v100, v101, v102, v103, v104, v105, v106, v107, v108, v109, v110, v111, v112, v113, v114, v115, v116, v117, v118, v119, v120, v121, v122, v123, v124, v125, v126, v127, v128, v129, v130, v131, v132, v133, v134, v135, v136, v137, v138, v139, v140, v141, v142, v143, v144, v145, v146, v147, v148, v149, v150, v151, v152, v153, v154, v155, v156, v157, v158, v159, v160, v161, v162, v163, v164, v165, v166, v167, v168, v169, v170, v171, v172, v173, v174, v175, v176, v177, v178, v179, v180, v181, v182, v183, v184, v185, v186, v187, v188, v189, v190, v191, v192, v193, v194, v195, v196, v197, v198, v199, v200, v201, v202, v203, v204, v205, v206, v207, v208, v209, v210, v211, v212, v213, v214, v215, v216, v217, v218, v219, v220, v221, v222, v223, v224, v225, v226, v227, v228, v229, v230, v231, v232, v233, v234, v235, v236, v237, v238, v239, v240, v241, v242, v243, v244, v245, v246, v247, v248, v249, v250, v251, v252, v253, v254, v255, v256, v257, v258, v259, v260, v261, v262, v263, v264, v265, v266, v267, v268, v269, v270, v271, v272, v273, v274, v275, v276, v277, v278, v279, v280, v281, v282, v283, v284, v285, v286, v287, v288, v289, v290, v291, v292, v293, v294, v295, v296, v297, v298, v299, v300, v301, v302, v303, v304, v305, v306, v307, v308, v309, v310, v311, v312, v313, v314, v315, v316, v317, v318, v319, v320, v321, v322, v323, v324, v325, v326, v327, v328, v329, v330], []⟩ w5 := by
  conv => arg 2; whnf
  have b1 := (h7.pull 1).cell 1
  simp at b1
  have hcnt : R.cnt = D.acc := by have := hR'.out.acc; omega
  have hlen : R.l.length = D.msgs.length := by rw [← hR'.out.call, List.length_map]
  have e1 : (D.acc != D.acc) = false := by simp
  have e2 : ((D.msgs.length : Int) != (D.msgs.length : Int)) = false := by simp
  have h8 := h7.pull 2
  obtain ⟨vp, vr, vl, hv⟩ := rdP_E h7
  subst ht
  have hno : client < 0 ∨ (D.reps.length : Int) ≤ client := by rw [hR'.out.dlen]; exact hi
  clear hi
  obtain ⟨ao7, cap7, rfl⟩ := (hv.pull 3).tLen
  have r7 := hv.cell 7
  have r4 := hv.cell 4
  have hq := hv.lt
  simp [rdC] at r7 r4
  rw [hcnt] at r4
  rw [hlen] at r7
  go_upto_region 72 with (fail)
  go_quiet ((first | (go_at_call 20; exact quiet_left (desk_accesses (h8.drewN _))) | (go_at_call 20; exact quiet_add_left (desk_accesses (h8.drewN _))) | (go_at_call 21; exact quiet_left (desk_waiting (h8.drewN _))) | (go_at_call 21; exact quiet_add_left (desk_waiting (h8.drewN _))) | (go_at_call 22; exact quiet_left (desk_has_not (h8.drewN _) hno)) | (go_at_call 22; exact quiet_add_left (desk_has_not (h8.drewN _) hno))))
  go_wp2_with fail
  unfold RestR
  refine ⟨_, _, _, _, _, _, _, _, _, _, _, _, _, _, _, _, _, _, _, _, _, _, _, _, _, _, _, _, _, _, _, _, _, _, _, _, ?_, rfl⟩
  first | exact ⟨h7.drewN _, k7.drewN _⟩ | exact ⟨(h7.drewN _).drewN _, (k7.drewN _).drewN _⟩

set_option maxRecDepth 1000000 in
set_option maxHeartbeats 4000000 in
theorem rest_y {W : World} {c q B d : Nat} {kind client num : Int} {t : Bool} {v0 v1 v2 v3 v4 v5 v6 v7 v8 v11 v14 v15 v16 v17 v18 v19 v20 v21 v22 v23 v24 v25 v26 v27 v28 v29 v30 v31 v32 v33 v34 v35 v36 v37 v38 v39 v40 v41 v42 v43 v44 v45 v46 v47 v48 v49 v50 v51 v52 v53 v54 v55 v56 v57 v58 v59 v60 v61 v62 v63 v64 v65 v66 v67 v68 v69 v70 v71 v72 v73 v74 v75 v76 v77 v78 v79 v80 v81 v82 v83 v84 v85 v86 v87 v88 v89 v90 v91 v92 v93 v94 v95 v96 v97 v98 v99 v100 v101 v102 v103 v104 v105 v106 v107 v108 v109 v110 v111 v112 v113 v114 v115 v116 v117 v118 v119 v120 v121 v122 v123 v124 v125 v126 v127 v128 v129 v130 v131 v132 v133 v134 v135 v136 v137 v138 v139 v140 v141 v142 v143 v144 v145 v146 v147 v148 v149 v150 v151 v152 v153 v154 v155 v156 v157 v158 v159 v160 v161 v162 v163 v164 v165 v166 v167 v168 v169 v170 v171 v172 v173 v174 v175 v176 v177 v178 v179 v180 v181 v182 v183 v184 v185 v186 v187 v188 v189 v190 v191 v192 v193 v194 v195 v196 v197 v198 v199 v200 v201 v202 v203 v204 v205 v206 v207 v208 v209 v210 v211 v212 v213 v214 v215 v216 v217 v218 v219 v220 v221 v222 v223 v224 v225 v226 v227 v228 v229 v230 v231 v232 v233 v234 v235 v236 v237 v238 v239 v240 v241 v242 v243 v244 v245 v246 v247 v248 v249 v250 v251 v252 v253 v254 v255 v256 v257 v258 v259 v260 v261 v262 v263 v264 v265 v266 v267 v268 v269 v270 v271 v272 v273 v274 v275 v276 v277 v278 v279 v280 v281 v282 v283 v284 v285 v286 v287 v288 v289 v290 v291 v292 v293 v294 v295 v296 v297 v298 v299 v300 v301 v302 v303 v304 v305 v306 v307 v308 v309 v310 v311 v312 v313 v314 v315 v316 v317 v318 v319 v320 v321 v322 v323 v324 v325 v326 v327 v328 v329 v330 : Value} {D : DeskD} {R : RD} {w5 : World} {K' : Act → World → Prop} {Q' : Exit → Act → World → Prop}
    (hK : ∀ a w, RestR W q B d kind client num t D R v0 v1 v2 v3 v4 v5 v6 v7 v8 v11 v14 v15 v16 v17 v18 v19 v21 v22 v23 v24 v25 v26 v27 v28 v29 v30 v31 v32 v33 v34 v35 v36 v37 v38 v39 v40 v41 v42 v43 v44 v45 v46 v47 v48 v49 v50 v51 v52 v53 v54 v55 v56 v57 v58 v59 v60 v61 v62 v63 v64 v65 v66 v67 v68 v69 v70 v71 v72 v73 v74 v75 v76 v77 v78 v79 v80 v81 v82 v83 v84 v85 v86 v87 v88 v89 v90 v91 v92 v93 v94 v95 v96 v97 v98 v99 v100 v101 v102 v103 v104 v105 v106 v107 v108 v109 v110 v111 v112 v113 v114 v115 v116 v117 v118 v119 v120 v121 v122 v123 v124 v125 v126 v127 v128 v129 v130 v131 v132 v133 v134 v135 v136 v137 v138 v139 v140 v141 v142 v143 v144 v145 v146 v147 v148 v149 v150 v151 v152 v153 v154 v155 v156 v157 v158 v159 v160 v161 v162 v163 v164 v165 v166 v167 v168 v169 v170 v171 v172 v173 v174 v175 v176 v177 v178 v179 v180 v181 v182 v183 v184 v185 v186 v187 v188 v189 v190 v191 v192 v193 v194 v195 v196 v197 v198 v199 v200 v201 v202 v203 v204 v205 v206 v207 v208 v209 v210 v211 v212 v213 v214 v215 v216 v217 v218 v219 v220 v221 v222 v223 v224 v225 v226 v227 v228 v229 v230 v231 v232 v233 v234 v235 v236 v237 v238 v239 v240 v241 v242 v243 v244 v245 v246 v247 v248 v249 v250 v251 v252 v253 v254 v255 v256 v257 v258 v259 v260 v261 v262 v263 v264 v265 v266 v267 v268 v269 v270 v271 v272 v273 v274 v275 v276 v277 v278 v279 v280 v281 v282 v283 v284 v285 v286 v287 v288 v289 v290 v291 v292 v293 v294 v330 a w → K' a w) (h7 : Sat w5 [rdP q R, own B (.cells #[.int .i64 kind, .int .i64 client, .int .i64 num] 29 (0, 0)), deskP d D, oldH W]) (k7 : Kp W w5) (hR' : Hid (DRel c 0 D R)) (ht : t = true) (i : Nat) (hi : client = i) (hic : i < c) (y : Int) (hy : R.reps[i]? = some y) (hyn : 0 ≤ y) :
    Code.wp Try.prog restCode (Exit.inBlock 1 (Exit.then K' Q')) ⟨#[v0, v1, v2, v3, v4, v5, v6, v7, v8, .pointer (some ⟨d, 0, none⟩), .pointer (some ⟨q, 0, none⟩), v11, .pointer (some ⟨B, 0, none⟩), .bool t, v14, v15, v16, v17, v18, v19, v20, v21, v22, v23, v24, v25, v26, v27, v28, v29, v30, v31, v32, v33, v34, v35, v36, v37, v38, v39, v40, v41, v42, v43, v44, v45, v46, v47, v48, v49, v50, v51, v52, v53, v54, v55, v56, v57, v58, v59, v60, v61, v62, v63, v64, v65, v66, v67, v68, v69, v70, v71, v72, v73, v74, v75, v76, v77, v78, v79, v80, v81, v82, v83, v84, v85, v86, v87, v88, v89, v90, v91, v92, v93, v94, v95, v96, v97, v98, v99, v100, v101, v102, v103, v104, v105, v106, v107, v108, v109, v110, v111, v112, v113, v114, v115, v116, v117, v118, v119, v120, v121, v122, v123, v124, v125, v126, v127, v128, v129, v130, v131, v132, v133, v134, v135, v136, v137, v138, v139, v140, v141, v142, v143, v144, v145, v146, v147, v148, v149, v150, v151, v152, v153, v154, v155, v156, v157, v158, v159, v160, v161, v162, v163, v164, v165, v166, v167, v168, v169, v170, v171, v172, v173, v174, v175, v176, v177, v178, v179, v180, v181, v182, v183, v184, v185, v186, v187, v188, v189, v190, v191, v192, v193, v194, v195, v196, v197, v198, v199, v200, v201, v202, v203, v204, v205, v206, v207, v208, v209, v210, v211, v212, v213, v214, v215, v216, v217, v218, v219, v220, v221, v222, v223, v224, v225, v226, v227, v228, v229, v230, v231, v232, v233, v234, v235, v236, v237, v238, v239, v240, v241, v242, v243, v244, v245, v246, v247, v248, v249, v250, v251, v252, v253, v254, v255, v256, v257, v258, v259, v260, v261, v262, v263, v264, v265, v266, v267, v268, v269, v270, v271, v272, v273, v274, v275, v276, v277, v278, v279, v280, v281, v282, v283, v284, v285, v286, v287, v288, v289, v290, v291, v292, v293, v294, v295, v296, v297, v298, v299, v300, v301, v302, v303, v304, v305, v306, v307, v308, v309, v310, v311, v312, v313, v314, v315, v316, v317, v318, v319, v320, v321, v322, v323, v324, v325, v326, v327, v328, v329, v330], []⟩ w5 := by
  conv => arg 2; whnf
  have b1 := (h7.pull 1).cell 1
  simp at b1
  have hcnt : R.cnt = D.acc := by have := hR'.out.acc; omega
  have hlen : R.l.length = D.msgs.length := by rw [← hR'.out.call, List.length_map]
  have e1 : (D.acc != D.acc) = false := by simp
  have e2 : ((D.msgs.length : Int) != (D.msgs.length : Int)) = false := by simp
  have h8 := h7.pull 2
  obtain ⟨vp, vr, vl, hv⟩ := rdP_E h7
  subst ht hi
  have hpl2 : i < R.reps.length := by rw [hR'.out.rlen]; exact hic
  have hpl : i < D.reps.length := by rw [hR'.out.dlen]; exact hic
  obtain ⟨r, hrr⟩ : ∃ r, D.reps[i]? = some r := ⟨D.reps[i], by simp⟩
  have hlies := (hR'.out.rep i r y hrr hy).1
  rcases (hv.pull 2).tForm with ⟨rfl, hp⟩ | ⟨g, off6, cap6, rfl⟩
  · rw [hp] at hpl2; simp at hpl2
  have r6 := hv.cell 6
  simp [rdC] at r6
  have y0 := (hv.pull 2).tCellI i y hy
  have z1 := (hv.pull 2).rowBlock
  have i0 : (0 : Int) ≤ (i : Int) := by omega
  have i1 : (i : Int) < (R.reps.length : Int) := by omega
  have HRR := Lib.hid hrr
  obtain ⟨ao7, cap7, rfl⟩ := (hv.pull 3).tLen
  have r7 := hv.cell 7
  have r4 := hv.cell 4
  have hq := hv.lt
  simp [rdC] at r7 r4
  rw [hcnt] at r4
  rw [hlen] at r7
  clear hpl2 hpl hy hrr
  have hl : r.lies = true := by rw [hlies]; simpa using hyn
  have HC := fun nq => desk_has (h8.drewN nq) HRR.out
  rw [hl] at HC
  clear hlies hl
  go_upto_region 71 with (fail)
  go_quiet (fail)
  go_upto_region 72 with (fail)
  go_quiet ((first | (go_at_call 20; exact quiet_left (desk_accesses (h8.drewN _))) | (go_at_call 20; exact quiet_add_left (desk_accesses (h8.drewN _))) | (go_at_call 21; exact quiet_left (desk_waiting (h8.drewN _))) | (go_at_call 21; exact quiet_add_left (desk_waiting (h8.drewN _))) | (go_at_call 22; exact quiet_left (HC _)) | (go_at_call 22; exact quiet_add_left (HC _))))
  go_wp2_with fail
  unfold RestR
  refine ⟨_, _, _, _, _, _, _, _, _, _, _, _, _, _, _, _, _, _, _, _, _, _, _, _, _, _, _, _, _, _, _, _, _, _, _, _, ?_, rfl⟩
  first | exact ⟨h7.drewN _, k7.drewN _⟩ | exact ⟨(h7.drewN _).drewN _, (k7.drewN _).drewN _⟩

set_option maxRecDepth 1000000 in
set_option maxHeartbeats 4000000 in
theorem rest_x {W : World} {c q B d : Nat} {kind client num : Int} {t : Bool} {v0 v1 v2 v3 v4 v5 v6 v7 v8 v11 v14 v15 v16 v17 v18 v19 v20 v21 v22 v23 v24 v25 v26 v27 v28 v29 v30 v31 v32 v33 v34 v35 v36 v37 v38 v39 v40 v41 v42 v43 v44 v45 v46 v47 v48 v49 v50 v51 v52 v53 v54 v55 v56 v57 v58 v59 v60 v61 v62 v63 v64 v65 v66 v67 v68 v69 v70 v71 v72 v73 v74 v75 v76 v77 v78 v79 v80 v81 v82 v83 v84 v85 v86 v87 v88 v89 v90 v91 v92 v93 v94 v95 v96 v97 v98 v99 v100 v101 v102 v103 v104 v105 v106 v107 v108 v109 v110 v111 v112 v113 v114 v115 v116 v117 v118 v119 v120 v121 v122 v123 v124 v125 v126 v127 v128 v129 v130 v131 v132 v133 v134 v135 v136 v137 v138 v139 v140 v141 v142 v143 v144 v145 v146 v147 v148 v149 v150 v151 v152 v153 v154 v155 v156 v157 v158 v159 v160 v161 v162 v163 v164 v165 v166 v167 v168 v169 v170 v171 v172 v173 v174 v175 v176 v177 v178 v179 v180 v181 v182 v183 v184 v185 v186 v187 v188 v189 v190 v191 v192 v193 v194 v195 v196 v197 v198 v199 v200 v201 v202 v203 v204 v205 v206 v207 v208 v209 v210 v211 v212 v213 v214 v215 v216 v217 v218 v219 v220 v221 v222 v223 v224 v225 v226 v227 v228 v229 v230 v231 v232 v233 v234 v235 v236 v237 v238 v239 v240 v241 v242 v243 v244 v245 v246 v247 v248 v249 v250 v251 v252 v253 v254 v255 v256 v257 v258 v259 v260 v261 v262 v263 v264 v265 v266 v267 v268 v269 v270 v271 v272 v273 v274 v275 v276 v277 v278 v279 v280 v281 v282 v283 v284 v285 v286 v287 v288 v289 v290 v291 v292 v293 v294 v295 v296 v297 v298 v299 v300 v301 v302 v303 v304 v305 v306 v307 v308 v309 v310 v311 v312 v313 v314 v315 v316 v317 v318 v319 v320 v321 v322 v323 v324 v325 v326 v327 v328 v329 v330 : Value} {D : DeskD} {R : RD} {w5 : World} {K' : Act → World → Prop} {Q' : Exit → Act → World → Prop}
    (hK : ∀ a w, RestR W q B d kind client num t D R v0 v1 v2 v3 v4 v5 v6 v7 v8 v11 v14 v15 v16 v17 v18 v19 v21 v22 v23 v24 v25 v26 v27 v28 v29 v30 v31 v32 v33 v34 v35 v36 v37 v38 v39 v40 v41 v42 v43 v44 v45 v46 v47 v48 v49 v50 v51 v52 v53 v54 v55 v56 v57 v58 v59 v60 v61 v62 v63 v64 v65 v66 v67 v68 v69 v70 v71 v72 v73 v74 v75 v76 v77 v78 v79 v80 v81 v82 v83 v84 v85 v86 v87 v88 v89 v90 v91 v92 v93 v94 v95 v96 v97 v98 v99 v100 v101 v102 v103 v104 v105 v106 v107 v108 v109 v110 v111 v112 v113 v114 v115 v116 v117 v118 v119 v120 v121 v122 v123 v124 v125 v126 v127 v128 v129 v130 v131 v132 v133 v134 v135 v136 v137 v138 v139 v140 v141 v142 v143 v144 v145 v146 v147 v148 v149 v150 v151 v152 v153 v154 v155 v156 v157 v158 v159 v160 v161 v162 v163 v164 v165 v166 v167 v168 v169 v170 v171 v172 v173 v174 v175 v176 v177 v178 v179 v180 v181 v182 v183 v184 v185 v186 v187 v188 v189 v190 v191 v192 v193 v194 v195 v196 v197 v198 v199 v200 v201 v202 v203 v204 v205 v206 v207 v208 v209 v210 v211 v212 v213 v214 v215 v216 v217 v218 v219 v220 v221 v222 v223 v224 v225 v226 v227 v228 v229 v230 v231 v232 v233 v234 v235 v236 v237 v238 v239 v240 v241 v242 v243 v244 v245 v246 v247 v248 v249 v250 v251 v252 v253 v254 v255 v256 v257 v258 v259 v260 v261 v262 v263 v264 v265 v266 v267 v268 v269 v270 v271 v272 v273 v274 v275 v276 v277 v278 v279 v280 v281 v282 v283 v284 v285 v286 v287 v288 v289 v290 v291 v292 v293 v294 v330 a w → K' a w) (h7 : Sat w5 [rdP q R, own B (.cells #[.int .i64 kind, .int .i64 client, .int .i64 num] 29 (0, 0)), deskP d D, oldH W]) (k7 : Kp W w5) (hR' : Hid (DRel c 0 D R)) (ht : t = true) (i : Nat) (hi : client = i) (hic : i < c) (y : Int) (hy : R.reps[i]? = some y) (hyn : y < 0) :
    Code.wp Try.prog restCode (Exit.inBlock 1 (Exit.then K' Q')) ⟨#[v0, v1, v2, v3, v4, v5, v6, v7, v8, .pointer (some ⟨d, 0, none⟩), .pointer (some ⟨q, 0, none⟩), v11, .pointer (some ⟨B, 0, none⟩), .bool t, v14, v15, v16, v17, v18, v19, v20, v21, v22, v23, v24, v25, v26, v27, v28, v29, v30, v31, v32, v33, v34, v35, v36, v37, v38, v39, v40, v41, v42, v43, v44, v45, v46, v47, v48, v49, v50, v51, v52, v53, v54, v55, v56, v57, v58, v59, v60, v61, v62, v63, v64, v65, v66, v67, v68, v69, v70, v71, v72, v73, v74, v75, v76, v77, v78, v79, v80, v81, v82, v83, v84, v85, v86, v87, v88, v89, v90, v91, v92, v93, v94, v95, v96, v97, v98, v99, v100, v101, v102, v103, v104, v105, v106, v107, v108, v109, v110, v111, v112, v113, v114, v115, v116, v117, v118, v119, v120, v121, v122, v123, v124, v125, v126, v127, v128, v129, v130, v131, v132, v133, v134, v135, v136, v137, v138, v139, v140, v141, v142, v143, v144, v145, v146, v147, v148, v149, v150, v151, v152, v153, v154, v155, v156, v157, v158, v159, v160, v161, v162, v163, v164, v165, v166, v167, v168, v169, v170, v171, v172, v173, v174, v175, v176, v177, v178, v179, v180, v181, v182, v183, v184, v185, v186, v187, v188, v189, v190, v191, v192, v193, v194, v195, v196, v197, v198, v199, v200, v201, v202, v203, v204, v205, v206, v207, v208, v209, v210, v211, v212, v213, v214, v215, v216, v217, v218, v219, v220, v221, v222, v223, v224, v225, v226, v227, v228, v229, v230, v231, v232, v233, v234, v235, v236, v237, v238, v239, v240, v241, v242, v243, v244, v245, v246, v247, v248, v249, v250, v251, v252, v253, v254, v255, v256, v257, v258, v259, v260, v261, v262, v263, v264, v265, v266, v267, v268, v269, v270, v271, v272, v273, v274, v275, v276, v277, v278, v279, v280, v281, v282, v283, v284, v285, v286, v287, v288, v289, v290, v291, v292, v293, v294, v295, v296, v297, v298, v299, v300, v301, v302, v303, v304, v305, v306, v307, v308, v309, v310, v311, v312, v313, v314, v315, v316, v317, v318, v319, v320, v321, v322, v323, v324, v325, v326, v327, v328, v329, v330], []⟩ w5 := by
  conv => arg 2; whnf
  have b1 := (h7.pull 1).cell 1
  simp at b1
  have hcnt : R.cnt = D.acc := by have := hR'.out.acc; omega
  have hlen : R.l.length = D.msgs.length := by rw [← hR'.out.call, List.length_map]
  have e1 : (D.acc != D.acc) = false := by simp
  have e2 : ((D.msgs.length : Int) != (D.msgs.length : Int)) = false := by simp
  have h8 := h7.pull 2
  obtain ⟨vp, vr, vl, hv⟩ := rdP_E h7
  subst ht hi
  have hpl2 : i < R.reps.length := by rw [hR'.out.rlen]; exact hic
  have hpl : i < D.reps.length := by rw [hR'.out.dlen]; exact hic
  obtain ⟨r, hrr⟩ : ∃ r, D.reps[i]? = some r := ⟨D.reps[i], by simp⟩
  have hlies := (hR'.out.rep i r y hrr hy).1
  rcases (hv.pull 2).tForm with ⟨rfl, hp⟩ | ⟨g, off6, cap6, rfl⟩
  · rw [hp] at hpl2; simp at hpl2
  have r6 := hv.cell 6
  simp [rdC] at r6
  have y0 := (hv.pull 2).tCellI i y hy
  have z1 := (hv.pull 2).rowBlock
  have i0 : (0 : Int) ≤ (i : Int) := by omega
  have i1 : (i : Int) < (R.reps.length : Int) := by omega
  have HRR := Lib.hid hrr
  obtain ⟨ao7, cap7, rfl⟩ := (hv.pull 3).tLen
  have r7 := hv.cell 7
  have r4 := hv.cell 4
  have hq := hv.lt
  simp [rdC] at r7 r4
  rw [hcnt] at r4
  rw [hlen] at r7
  clear hpl2 hpl hy hrr
  have hl : r.lies = false := by rw [hlies]; simpa using hyn
  have HC := fun nq => desk_has (h8.drewN nq) HRR.out
  rw [hl] at HC
  clear hlies hl
  go_upto_region 71 with (fail)
  go_quiet (fail)
  go_upto_region 72 with (fail)
  go_quiet ((first | (go_at_call 20; exact quiet_left (desk_accesses (h8.drewN _))) | (go_at_call 20; exact quiet_add_left (desk_accesses (h8.drewN _))) | (go_at_call 21; exact quiet_left (desk_waiting (h8.drewN _))) | (go_at_call 21; exact quiet_add_left (desk_waiting (h8.drewN _))) | (go_at_call 22; exact quiet_left (HC _)) | (go_at_call 22; exact quiet_add_left (HC _))))
  go_wp2_with fail
  unfold RestR
  refine ⟨_, _, _, _, _, _, _, _, _, _, _, _, _, _, _, _, _, _, _, _, _, _, _, _, _, _, _, _, _, _, _, _, _, _, _, _, ?_, rfl⟩
  first | exact ⟨h7.drewN _, k7.drewN _⟩ | exact ⟨(h7.drewN _).drewN _, (k7.drewN _).drewN _⟩

set_option maxRecDepth 1000000 in
set_option maxHeartbeats 4000000 in
theorem rest_all {W : World} {c q B d : Nat} {kind client num : Int} {t : Bool} {v0 v1 v2 v3 v4 v5 v6 v7 v8 v11 v14 v15 v16 v17 v18 v19 v20 v21 v22 v23 v24 v25 v26 v27 v28 v29 v30 v31 v32 v33 v34 v35 v36 v37 v38 v39 v40 v41 v42 v43 v44 v45 v46 v47 v48 v49 v50 v51 v52 v53 v54 v55 v56 v57 v58 v59 v60 v61 v62 v63 v64 v65 v66 v67 v68 v69 v70 v71 v72 v73 v74 v75 v76 v77 v78 v79 v80 v81 v82 v83 v84 v85 v86 v87 v88 v89 v90 v91 v92 v93 v94 v95 v96 v97 v98 v99 v100 v101 v102 v103 v104 v105 v106 v107 v108 v109 v110 v111 v112 v113 v114 v115 v116 v117 v118 v119 v120 v121 v122 v123 v124 v125 v126 v127 v128 v129 v130 v131 v132 v133 v134 v135 v136 v137 v138 v139 v140 v141 v142 v143 v144 v145 v146 v147 v148 v149 v150 v151 v152 v153 v154 v155 v156 v157 v158 v159 v160 v161 v162 v163 v164 v165 v166 v167 v168 v169 v170 v171 v172 v173 v174 v175 v176 v177 v178 v179 v180 v181 v182 v183 v184 v185 v186 v187 v188 v189 v190 v191 v192 v193 v194 v195 v196 v197 v198 v199 v200 v201 v202 v203 v204 v205 v206 v207 v208 v209 v210 v211 v212 v213 v214 v215 v216 v217 v218 v219 v220 v221 v222 v223 v224 v225 v226 v227 v228 v229 v230 v231 v232 v233 v234 v235 v236 v237 v238 v239 v240 v241 v242 v243 v244 v245 v246 v247 v248 v249 v250 v251 v252 v253 v254 v255 v256 v257 v258 v259 v260 v261 v262 v263 v264 v265 v266 v267 v268 v269 v270 v271 v272 v273 v274 v275 v276 v277 v278 v279 v280 v281 v282 v283 v284 v285 v286 v287 v288 v289 v290 v291 v292 v293 v294 v295 v296 v297 v298 v299 v300 v301 v302 v303 v304 v305 v306 v307 v308 v309 v310 v311 v312 v313 v314 v315 v316 v317 v318 v319 v320 v321 v322 v323 v324 v325 v326 v327 v328 v329 v330 : Value} {D : DeskD} {R : RD} {w5 : World} {K' : Act → World → Prop} {Q' : Exit → Act → World → Prop}
    (hK : ∀ a w, RestR W q B d kind client num t D R v0 v1 v2 v3 v4 v5 v6 v7 v8 v11 v14 v15 v16 v17 v18 v19 v21 v22 v23 v24 v25 v26 v27 v28 v29 v30 v31 v32 v33 v34 v35 v36 v37 v38 v39 v40 v41 v42 v43 v44 v45 v46 v47 v48 v49 v50 v51 v52 v53 v54 v55 v56 v57 v58 v59 v60 v61 v62 v63 v64 v65 v66 v67 v68 v69 v70 v71 v72 v73 v74 v75 v76 v77 v78 v79 v80 v81 v82 v83 v84 v85 v86 v87 v88 v89 v90 v91 v92 v93 v94 v95 v96 v97 v98 v99 v100 v101 v102 v103 v104 v105 v106 v107 v108 v109 v110 v111 v112 v113 v114 v115 v116 v117 v118 v119 v120 v121 v122 v123 v124 v125 v126 v127 v128 v129 v130 v131 v132 v133 v134 v135 v136 v137 v138 v139 v140 v141 v142 v143 v144 v145 v146 v147 v148 v149 v150 v151 v152 v153 v154 v155 v156 v157 v158 v159 v160 v161 v162 v163 v164 v165 v166 v167 v168 v169 v170 v171 v172 v173 v174 v175 v176 v177 v178 v179 v180 v181 v182 v183 v184 v185 v186 v187 v188 v189 v190 v191 v192 v193 v194 v195 v196 v197 v198 v199 v200 v201 v202 v203 v204 v205 v206 v207 v208 v209 v210 v211 v212 v213 v214 v215 v216 v217 v218 v219 v220 v221 v222 v223 v224 v225 v226 v227 v228 v229 v230 v231 v232 v233 v234 v235 v236 v237 v238 v239 v240 v241 v242 v243 v244 v245 v246 v247 v248 v249 v250 v251 v252 v253 v254 v255 v256 v257 v258 v259 v260 v261 v262 v263 v264 v265 v266 v267 v268 v269 v270 v271 v272 v273 v274 v275 v276 v277 v278 v279 v280 v281 v282 v283 v284 v285 v286 v287 v288 v289 v290 v291 v292 v293 v294 v330 a w → K' a w) (h7 : Sat w5 [rdP q R, own B (.cells #[.int .i64 kind, .int .i64 client, .int .i64 num] 29 (0, 0)), deskP d D, oldH W]) (k7 : Kp W w5) (hR' : Hid (DRel c 0 D R)) (HT : Hid (t = (decide (0 ≤ client) && decide (client < (c : Int))))) :
    Code.wp Try.prog restCode (Exit.inBlock 1 (Exit.then K' Q')) ⟨#[v0, v1, v2, v3, v4, v5, v6, v7, v8, .pointer (some ⟨d, 0, none⟩), .pointer (some ⟨q, 0, none⟩), v11, .pointer (some ⟨B, 0, none⟩), .bool t, v14, v15, v16, v17, v18, v19, v20, v21, v22, v23, v24, v25, v26, v27, v28, v29, v30, v31, v32, v33, v34, v35, v36, v37, v38, v39, v40, v41, v42, v43, v44, v45, v46, v47, v48, v49, v50, v51, v52, v53, v54, v55, v56, v57, v58, v59, v60, v61, v62, v63, v64, v65, v66, v67, v68, v69, v70, v71, v72, v73, v74, v75, v76, v77, v78, v79, v80, v81, v82, v83, v84, v85, v86, v87, v88, v89, v90, v91, v92, v93, v94, v95, v96, v97, v98, v99, v100, v101, v102, v103, v104, v105, v106, v107, v108, v109, v110, v111, v112, v113, v114, v115, v116, v117, v118, v119, v120, v121, v122, v123, v124, v125, v126, v127, v128, v129, v130, v131, v132, v133, v134, v135, v136, v137, v138, v139, v140, v141, v142, v143, v144, v145, v146, v147, v148, v149, v150, v151, v152, v153, v154, v155, v156, v157, v158, v159, v160, v161, v162, v163, v164, v165, v166, v167, v168, v169, v170, v171, v172, v173, v174, v175, v176, v177, v178, v179, v180, v181, v182, v183, v184, v185, v186, v187, v188, v189, v190, v191, v192, v193, v194, v195, v196, v197, v198, v199, v200, v201, v202, v203, v204, v205, v206, v207, v208, v209, v210, v211, v212, v213, v214, v215, v216, v217, v218, v219, v220, v221, v222, v223, v224, v225, v226, v227, v228, v229, v230, v231, v232, v233, v234, v235, v236, v237, v238, v239, v240, v241, v242, v243, v244, v245, v246, v247, v248, v249, v250, v251, v252, v253, v254, v255, v256, v257, v258, v259, v260, v261, v262, v263, v264, v265, v266, v267, v268, v269, v270, v271, v272, v273, v274, v275, v276, v277, v278, v279, v280, v281, v282, v283, v284, v285, v286, v287, v288, v289, v290, v291, v292, v293, v294, v295, v296, v297, v298, v299, v300, v301, v302, v303, v304, v305, v306, v307, v308, v309, v310, v311, v312, v313, v314, v315, v316, v317, v318, v319, v320, v321, v322, v323, v324, v325, v326, v327, v328, v329, v330], []⟩ w5 := by
  have hin : (t = false ∧ (client < 0 ∨ (c : Int) ≤ client)) ∨ (t = true ∧ ∃ i : Nat, client = i ∧ i < c) := by
    have ht := HT.out
    by_cases h : 0 ≤ client ∧ client < (c : Int)
    · right
      refine ⟨by rw [ht]; simpa using h, client.toNat, by omega, by omega⟩
    · left
      refine ⟨by rw [ht]; simp only [Bool.and_eq_false_iff, decide_eq_false_iff_not]; omega, by omega⟩
  have hreps := hR'.out.rlen
  rcases hin with ⟨ht, hi⟩ | ⟨ht, i, hi, hic⟩
  · exact rest_n hK h7 k7 hR' ht hi
  · obtain ⟨y, hy⟩ : ∃ y, R.reps[i]? = some y := ⟨R.reps[i]'(by rw [hreps]; exact hic), by simp⟩
    by_cases hyn : 0 ≤ y
    · exact rest_y hK h7 k7 hR' ht i hi hic y hy hyn
    · exact rest_x hK h7 k7 hR' ht i hi hic y hy (by omega)

end Go.Proofs.Ytkcgbenhnhbhhab
