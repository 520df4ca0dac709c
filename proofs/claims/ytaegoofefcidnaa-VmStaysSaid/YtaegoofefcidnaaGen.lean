/- Plain functions, printed by program out of the given ones: what each Go function comes to. -/
import Derived.Test.YtaegoofefcidnaaMchA
set_option linter.unusedVariables false
/-- Bytes that are told. -/
def Go.Proofs.Ytaegoofefcidnaa.M.F.lit (l : List Nat) : ByteArray := ⟨(l.map UInt8.ofNat).toArray⟩
namespace Go.Proofs.Ytaegoofefcidnaa.G
open Go Go.Proofs.Ytaegoofefcidnaa.M

/-- glazier/code.uses -/
noncomputable def code_uses (x0 : Int) : Option (Int) :=
  bnd (F.eq x0 0) fun v1 =>
  bite v1 (
    some 9) (
    bnd (F.eq x0 1) fun v2 =>
    bite v2 (
      some 3) (
      bnd (F.eq x0 9) fun v3 =>
      bite v3 (
        bite v3 (
          some 11) (
          bnd (F.eq x0 12) fun v4 =>
          bite v4 (
            some 10) (
            bnd (F.eq x0 2) fun v5 =>
            bite v5 (
              bite v5 (
                some 7) (
                some 0)) (
              bnd (F.eq x0 3) fun v6 =>
              bite v6 (
                bite v6 (
                  some 7) (
                  some 0)) (
                bnd (F.eq x0 4) fun v7 =>
                bite v7 (
                  bite v7 (
                    some 7) (
                    some 0)) (
                  bnd (F.eq x0 5) fun v8 =>
                  bite v8 (
                    bite v8 (
                      some 7) (
                      some 0)) (
                    bnd (F.eq x0 6) fun v9 =>
                    bite v9 (
                      bite v9 (
                        some 7) (
                        some 0)) (
                      bnd (F.eq x0 7) fun v10 =>
                      bite v10 (
                        bite v10 (
                          some 7) (
                          some 0)) (
                        bnd (F.eq x0 8) fun v11 =>
                        bite v11 (
                          bite v11 (
                            some 7) (
                            some 0)) (
                          bnd (F.eq x0 11) fun v12 =>
                          bite v12 (
                            bite v12 (
                              some 7) (
                              some 0)) (
                            bnd (F.eq x0 13) fun v13 =>
                            bite v13 (
                              bite v13 (
                                some 7) (
                                some 0)) (
                              bnd (F.eq x0 14) fun v14 =>
                              bite v14 (
                                some 7) (
                                some 0))))))))))))) (
        bnd (F.eq x0 10) fun v15 =>
        bite v15 (
          some 11) (
          bnd (F.eq x0 12) fun v16 =>
          bite v16 (
            some 10) (
            bnd (F.eq x0 2) fun v17 =>
            bite v17 (
              bite v17 (
                some 7) (
                some 0)) (
              bnd (F.eq x0 3) fun v18 =>
              bite v18 (
                bite v18 (
                  some 7) (
                  some 0)) (
                bnd (F.eq x0 4) fun v19 =>
                bite v19 (
                  bite v19 (
                    some 7) (
                    some 0)) (
                  bnd (F.eq x0 5) fun v20 =>
                  bite v20 (
                    bite v20 (
                      some 7) (
                      some 0)) (
                    bnd (F.eq x0 6) fun v21 =>
                    bite v21 (
                      bite v21 (
                        some 7) (
                        some 0)) (
                      bnd (F.eq x0 7) fun v22 =>
                      bite v22 (
                        bite v22 (
                          some 7) (
                          some 0)) (
                        bnd (F.eq x0 8) fun v23 =>
                        bite v23 (
                          bite v23 (
                            some 7) (
                            some 0)) (
                          bnd (F.eq x0 11) fun v24 =>
                          bite v24 (
                            bite v24 (
                              some 7) (
                              some 0)) (
                            bnd (F.eq x0 13) fun v25 =>
                            bite v25 (
                              bite v25 (
                                some 7) (
                                some 0)) (
                              bnd (F.eq x0 14) fun v26 =>
                              bite v26 (
                                some 7) (
                                some 0)))))))))))))))

/-- glazier/code.asks -/
noncomputable def code_asks (x0 : Int × Int × Int × Int × Int) : Option (Bool) :=
  bnd (F.eq x0.1 13) fun v1 =>
  bite v1 (
    some true) (
    bnd (F.eq x0.1 14) fun v2 =>
    some v2)

/-- glazier/code.fits -/
noncomputable def code_fits (x0 : Int) (x1 : Int) (x2 : Int) (x3 : Bool) : Option (Bool) :=
  bnd (F.ge x0 x1) fun v4 =>
  bite v4 (
    bnd (F.le x0 x2) fun v5 =>
    bite v5 (
      bite x3 (
        some true) (
        bnd (F.eq x0 0) fun v6 =>
        some v6)) (
      some false)) (
    some false)

/-- glazier/code.One -/
noncomputable def code_One (x0 : Int × Int × Int × Int × Int) (x1 : Int) (x2 : Int) : Option (Bool) :=
  obind (code_uses x0.1) fun q3 =>
  bnd (F.eq x0.1 0) fun v4 =>
  bite v4 (
    obind (code_asks x0) fun q5 =>
    bite q5 (
      bnd (F.gt q3 0) fun v6 =>
      bite v6 (
        bnd (F.ge x1 0) fun v7 =>
        bite v7 (
          bnd (F.lt x1 x2) fun v8 =>
          bite v8 (
            bnd (F.conv .i64 x0.2.1) fun v9 =>
            bnd (F.and .i64 q3 1) fun v10 =>
            bnd (F.gt v10 0) fun v11 =>
            obind (code_fits v9 0 4 v11) fun q12 =>
            bite q12 (
              bnd (F.conv .i64 x0.2.2.1) fun v13 =>
              bnd (F.and .i64 q3 2) fun v14 =>
              bnd (F.gt v14 0) fun v15 =>
              obind (code_fits v13 0 7 v15) fun q16 =>
              bite q16 (
                bnd (F.conv .i64 x0.2.2.2.1) fun v17 =>
                bnd (F.and .i64 q3 4) fun v18 =>
                bnd (F.gt v18 0) fun v19 =>
                obind (code_fits v17 0 7 v19) fun q20 =>
                bite q20 (
                  bnd (F.and .i64 q3 8) fun v21 =>
                  bnd (F.gt v21 0) fun v22 =>
                  obind (code_fits x0.2.2.2.2 (-2147483648) 2147483647 v22) fun q23 =>
                  some q23) (
                  some false)) (
                some false)) (
              some false)) (
            some false)) (
          some false)) (
        some false)) (
      bnd (F.gt q3 0) fun v24 =>
      bite v24 (
        bnd (F.ge x1 0) fun v25 =>
        bite v25 (
          bnd (F.lt x1 x2) fun v26 =>
          bite v26 (
            bnd (F.conv .i64 x0.2.1) fun v27 =>
            bnd (F.and .i64 q3 1) fun v28 =>
            bnd (F.gt v28 0) fun v29 =>
            obind (code_fits v27 0 7 v29) fun q30 =>
            bite q30 (
              bnd (F.conv .i64 x0.2.2.1) fun v31 =>
              bnd (F.and .i64 q3 2) fun v32 =>
              bnd (F.gt v32 0) fun v33 =>
              obind (code_fits v31 0 7 v33) fun q34 =>
              bite q34 (
                bnd (F.conv .i64 x0.2.2.2.1) fun v35 =>
                bnd (F.and .i64 q3 4) fun v36 =>
                bnd (F.gt v36 0) fun v37 =>
                obind (code_fits v35 0 7 v37) fun q38 =>
                bite q38 (
                  bnd (F.and .i64 q3 8) fun v39 =>
                  bnd (F.gt v39 0) fun v40 =>
                  obind (code_fits x0.2.2.2.2 (-2147483648) 2147483647 v40) fun q41 =>
                  some q41) (
                  some false)) (
                some false)) (
              some false)) (
            some false)) (
          some false)) (
        some false))) (
    bnd (F.eq x0.1 9) fun v42 =>
    bite v42 (
      bite v42 (
        obind (code_asks x0) fun q43 =>
        bite q43 (
          bnd (F.gt q3 0) fun v44 =>
          bite v44 (
            bnd (F.ge x1 0) fun v45 =>
            bite v45 (
              bnd (F.lt x1 x2) fun v46 =>
              bite v46 (
                bnd (F.conv .i64 x0.2.1) fun v47 =>
                bnd (F.and .i64 q3 1) fun v48 =>
                bnd (F.gt v48 0) fun v49 =>
                obind (code_fits v47 0 4 v49) fun q50 =>
                bite q50 (
                  bnd (F.conv .i64 x0.2.2.1) fun v51 =>
                  bnd (F.and .i64 q3 2) fun v52 =>
                  bnd (F.gt v52 0) fun v53 =>
                  obind (code_fits v51 0 7 v53) fun q54 =>
                  bite q54 (
                    bnd (F.conv .i64 x0.2.2.2.1) fun v55 =>
                    bnd (F.and .i64 q3 4) fun v56 =>
                    bnd (F.gt v56 0) fun v57 =>
                    obind (code_fits v55 0 7 v57) fun q58 =>
                    bite q58 (
                      bnd (F.and .i64 q3 8) fun v59 =>
                      bnd (F.gt v59 0) fun v60 =>
                      obind (code_fits x0.2.2.2.2 0 31 v60) fun q61 =>
                      some q61) (
                      some false)) (
                    some false)) (
                  some false)) (
                some false)) (
              some false)) (
            some false)) (
          bnd (F.gt q3 0) fun v62 =>
          bite v62 (
            bnd (F.ge x1 0) fun v63 =>
            bite v63 (
              bnd (F.lt x1 x2) fun v64 =>
              bite v64 (
                bnd (F.conv .i64 x0.2.1) fun v65 =>
                bnd (F.and .i64 q3 1) fun v66 =>
                bnd (F.gt v66 0) fun v67 =>
                obind (code_fits v65 0 7 v67) fun q68 =>
                bite q68 (
                  bnd (F.conv .i64 x0.2.2.1) fun v69 =>
                  bnd (F.and .i64 q3 2) fun v70 =>
                  bnd (F.gt v70 0) fun v71 =>
                  obind (code_fits v69 0 7 v71) fun q72 =>
                  bite q72 (
                    bnd (F.conv .i64 x0.2.2.2.1) fun v73 =>
                    bnd (F.and .i64 q3 4) fun v74 =>
                    bnd (F.gt v74 0) fun v75 =>
                    obind (code_fits v73 0 7 v75) fun q76 =>
                    bite q76 (
                      bnd (F.and .i64 q3 8) fun v77 =>
                      bnd (F.gt v77 0) fun v78 =>
                      obind (code_fits x0.2.2.2.2 0 31 v78) fun q79 =>
                      some q79) (
                      some false)) (
                    some false)) (
                  some false)) (
                some false)) (
              some false)) (
            some false))) (
        bnd (F.eq x0.1 12) fun v80 =>
        bite v80 (
          bnd (F.sub .i64 x2 x1) fun v81 =>
          bnd (F.sub .i64 v81 1) fun v82 =>
          obind (code_asks x0) fun q83 =>
          bite q83 (
            bnd (F.gt q3 0) fun v84 =>
            bite v84 (
              bnd (F.ge x1 0) fun v85 =>
              bite v85 (
                bnd (F.lt x1 x2) fun v86 =>
                bite v86 (
                  bnd (F.conv .i64 x0.2.1) fun v87 =>
                  bnd (F.and .i64 q3 1) fun v88 =>
                  bnd (F.gt v88 0) fun v89 =>
                  obind (code_fits v87 0 4 v89) fun q90 =>
                  bite q90 (
                    bnd (F.conv .i64 x0.2.2.1) fun v91 =>
                    bnd (F.and .i64 q3 2) fun v92 =>
                    bnd (F.gt v92 0) fun v93 =>
                    obind (code_fits v91 0 7 v93) fun q94 =>
                    bite q94 (
                      bnd (F.conv .i64 x0.2.2.2.1) fun v95 =>
                      bnd (F.and .i64 q3 4) fun v96 =>
                      bnd (F.gt v96 0) fun v97 =>
                      obind (code_fits v95 0 7 v97) fun q98 =>
                      bite q98 (
                        bnd (F.and .i64 q3 8) fun v99 =>
                        bnd (F.gt v99 0) fun v100 =>
                        obind (code_fits x0.2.2.2.2 0 v82 v100) fun q101 =>
                        some q101) (
                        some false)) (
                      some false)) (
                    some false)) (
                  some false)) (
                some false)) (
              some false)) (
            bnd (F.gt q3 0) fun v102 =>
            bite v102 (
              bnd (F.ge x1 0) fun v103 =>
              bite v103 (
                bnd (F.lt x1 x2) fun v104 =>
                bite v104 (
                  bnd (F.conv .i64 x0.2.1) fun v105 =>
                  bnd (F.and .i64 q3 1) fun v106 =>
                  bnd (F.gt v106 0) fun v107 =>
                  obind (code_fits v105 0 7 v107) fun q108 =>
                  bite q108 (
                    bnd (F.conv .i64 x0.2.2.1) fun v109 =>
                    bnd (F.and .i64 q3 2) fun v110 =>
                    bnd (F.gt v110 0) fun v111 =>
                    obind (code_fits v109 0 7 v111) fun q112 =>
                    bite q112 (
                      bnd (F.conv .i64 x0.2.2.2.1) fun v113 =>
                      bnd (F.and .i64 q3 4) fun v114 =>
                      bnd (F.gt v114 0) fun v115 =>
                      obind (code_fits v113 0 7 v115) fun q116 =>
                      bite q116 (
                        bnd (F.and .i64 q3 8) fun v117 =>
                        bnd (F.gt v117 0) fun v118 =>
                        obind (code_fits x0.2.2.2.2 0 v82 v118) fun q119 =>
                        some q119) (
                        some false)) (
                      some false)) (
                    some false)) (
                  some false)) (
                some false)) (
              some false))) (
          obind (code_asks x0) fun q120 =>
          bite q120 (
            bnd (F.gt q3 0) fun v121 =>
            bite v121 (
              bnd (F.ge x1 0) fun v122 =>
              bite v122 (
                bnd (F.lt x1 x2) fun v123 =>
                bite v123 (
                  bnd (F.conv .i64 x0.2.1) fun v124 =>
                  bnd (F.and .i64 q3 1) fun v125 =>
                  bnd (F.gt v125 0) fun v126 =>
                  obind (code_fits v124 0 4 v126) fun q127 =>
                  bite q127 (
                    bnd (F.conv .i64 x0.2.2.1) fun v128 =>
                    bnd (F.and .i64 q3 2) fun v129 =>
                    bnd (F.gt v129 0) fun v130 =>
                    obind (code_fits v128 0 7 v130) fun q131 =>
                    bite q131 (
                      bnd (F.conv .i64 x0.2.2.2.1) fun v132 =>
                      bnd (F.and .i64 q3 4) fun v133 =>
                      bnd (F.gt v133 0) fun v134 =>
                      obind (code_fits v132 0 7 v134) fun q135 =>
                      bite q135 (
                        bnd (F.and .i64 q3 8) fun v136 =>
                        bnd (F.gt v136 0) fun v137 =>
                        obind (code_fits x0.2.2.2.2 0 0 v137) fun q138 =>
                        some q138) (
                        some false)) (
                      some false)) (
                    some false)) (
                  some false)) (
                some false)) (
              some false)) (
            bnd (F.gt q3 0) fun v139 =>
            bite v139 (
              bnd (F.ge x1 0) fun v140 =>
              bite v140 (
                bnd (F.lt x1 x2) fun v141 =>
                bite v141 (
                  bnd (F.conv .i64 x0.2.1) fun v142 =>
                  bnd (F.and .i64 q3 1) fun v143 =>
                  bnd (F.gt v143 0) fun v144 =>
                  obind (code_fits v142 0 7 v144) fun q145 =>
                  bite q145 (
                    bnd (F.conv .i64 x0.2.2.1) fun v146 =>
                    bnd (F.and .i64 q3 2) fun v147 =>
                    bnd (F.gt v147 0) fun v148 =>
                    obind (code_fits v146 0 7 v148) fun q149 =>
                    bite q149 (
                      bnd (F.conv .i64 x0.2.2.2.1) fun v150 =>
                      bnd (F.and .i64 q3 4) fun v151 =>
                      bnd (F.gt v151 0) fun v152 =>
                      obind (code_fits v150 0 7 v152) fun q153 =>
                      bite q153 (
                        bnd (F.and .i64 q3 8) fun v154 =>
                        bnd (F.gt v154 0) fun v155 =>
                        obind (code_fits x0.2.2.2.2 0 0 v155) fun q156 =>
                        some q156) (
                        some false)) (
                      some false)) (
                    some false)) (
                  some false)) (
                some false)) (
              some false))))) (
      bnd (F.eq x0.1 10) fun v157 =>
      bite v157 (
        obind (code_asks x0) fun q158 =>
        bite q158 (
          bnd (F.gt q3 0) fun v159 =>
          bite v159 (
            bnd (F.ge x1 0) fun v160 =>
            bite v160 (
              bnd (F.lt x1 x2) fun v161 =>
              bite v161 (
                bnd (F.conv .i64 x0.2.1) fun v162 =>
                bnd (F.and .i64 q3 1) fun v163 =>
                bnd (F.gt v163 0) fun v164 =>
                obind (code_fits v162 0 4 v164) fun q165 =>
                bite q165 (
                  bnd (F.conv .i64 x0.2.2.1) fun v166 =>
                  bnd (F.and .i64 q3 2) fun v167 =>
                  bnd (F.gt v167 0) fun v168 =>
                  obind (code_fits v166 0 7 v168) fun q169 =>
                  bite q169 (
                    bnd (F.conv .i64 x0.2.2.2.1) fun v170 =>
                    bnd (F.and .i64 q3 4) fun v171 =>
                    bnd (F.gt v171 0) fun v172 =>
                    obind (code_fits v170 0 7 v172) fun q173 =>
                    bite q173 (
                      bnd (F.and .i64 q3 8) fun v174 =>
                      bnd (F.gt v174 0) fun v175 =>
                      obind (code_fits x0.2.2.2.2 0 31 v175) fun q176 =>
                      some q176) (
                      some false)) (
                    some false)) (
                  some false)) (
                some false)) (
              some false)) (
            some false)) (
          bnd (F.gt q3 0) fun v177 =>
          bite v177 (
            bnd (F.ge x1 0) fun v178 =>
            bite v178 (
              bnd (F.lt x1 x2) fun v179 =>
              bite v179 (
                bnd (F.conv .i64 x0.2.1) fun v180 =>
                bnd (F.and .i64 q3 1) fun v181 =>
                bnd (F.gt v181 0) fun v182 =>
                obind (code_fits v180 0 7 v182) fun q183 =>
                bite q183 (
                  bnd (F.conv .i64 x0.2.2.1) fun v184 =>
                  bnd (F.and .i64 q3 2) fun v185 =>
                  bnd (F.gt v185 0) fun v186 =>
                  obind (code_fits v184 0 7 v186) fun q187 =>
                  bite q187 (
                    bnd (F.conv .i64 x0.2.2.2.1) fun v188 =>
                    bnd (F.and .i64 q3 4) fun v189 =>
                    bnd (F.gt v189 0) fun v190 =>
                    obind (code_fits v188 0 7 v190) fun q191 =>
                    bite q191 (
                      bnd (F.and .i64 q3 8) fun v192 =>
                      bnd (F.gt v192 0) fun v193 =>
                      obind (code_fits x0.2.2.2.2 0 31 v193) fun q194 =>
                      some q194) (
                      some false)) (
                    some false)) (
                  some false)) (
                some false)) (
              some false)) (
            some false))) (
        bnd (F.eq x0.1 12) fun v195 =>
        bite v195 (
          bnd (F.sub .i64 x2 x1) fun v196 =>
          bnd (F.sub .i64 v196 1) fun v197 =>
          obind (code_asks x0) fun q198 =>
          bite q198 (
            bnd (F.gt q3 0) fun v199 =>
            bite v199 (
              bnd (F.ge x1 0) fun v200 =>
              bite v200 (
                bnd (F.lt x1 x2) fun v201 =>
                bite v201 (
                  bnd (F.conv .i64 x0.2.1) fun v202 =>
                  bnd (F.and .i64 q3 1) fun v203 =>
                  bnd (F.gt v203 0) fun v204 =>
                  obind (code_fits v202 0 4 v204) fun q205 =>
                  bite q205 (
                    bnd (F.conv .i64 x0.2.2.1) fun v206 =>
                    bnd (F.and .i64 q3 2) fun v207 =>
                    bnd (F.gt v207 0) fun v208 =>
                    obind (code_fits v206 0 7 v208) fun q209 =>
                    bite q209 (
                      bnd (F.conv .i64 x0.2.2.2.1) fun v210 =>
                      bnd (F.and .i64 q3 4) fun v211 =>
                      bnd (F.gt v211 0) fun v212 =>
                      obind (code_fits v210 0 7 v212) fun q213 =>
                      bite q213 (
                        bnd (F.and .i64 q3 8) fun v214 =>
                        bnd (F.gt v214 0) fun v215 =>
                        obind (code_fits x0.2.2.2.2 0 v197 v215) fun q216 =>
                        some q216) (
                        some false)) (
                      some false)) (
                    some false)) (
                  some false)) (
                some false)) (
              some false)) (
            bnd (F.gt q3 0) fun v217 =>
            bite v217 (
              bnd (F.ge x1 0) fun v218 =>
              bite v218 (
                bnd (F.lt x1 x2) fun v219 =>
                bite v219 (
                  bnd (F.conv .i64 x0.2.1) fun v220 =>
                  bnd (F.and .i64 q3 1) fun v221 =>
                  bnd (F.gt v221 0) fun v222 =>
                  obind (code_fits v220 0 7 v222) fun q223 =>
                  bite q223 (
                    bnd (F.conv .i64 x0.2.2.1) fun v224 =>
                    bnd (F.and .i64 q3 2) fun v225 =>
                    bnd (F.gt v225 0) fun v226 =>
                    obind (code_fits v224 0 7 v226) fun q227 =>
                    bite q227 (
                      bnd (F.conv .i64 x0.2.2.2.1) fun v228 =>
                      bnd (F.and .i64 q3 4) fun v229 =>
                      bnd (F.gt v229 0) fun v230 =>
                      obind (code_fits v228 0 7 v230) fun q231 =>
                      bite q231 (
                        bnd (F.and .i64 q3 8) fun v232 =>
                        bnd (F.gt v232 0) fun v233 =>
                        obind (code_fits x0.2.2.2.2 0 v197 v233) fun q234 =>
                        some q234) (
                        some false)) (
                      some false)) (
                    some false)) (
                  some false)) (
                some false)) (
              some false))) (
          obind (code_asks x0) fun q235 =>
          bite q235 (
            bnd (F.gt q3 0) fun v236 =>
            bite v236 (
              bnd (F.ge x1 0) fun v237 =>
              bite v237 (
                bnd (F.lt x1 x2) fun v238 =>
                bite v238 (
                  bnd (F.conv .i64 x0.2.1) fun v239 =>
                  bnd (F.and .i64 q3 1) fun v240 =>
                  bnd (F.gt v240 0) fun v241 =>
                  obind (code_fits v239 0 4 v241) fun q242 =>
                  bite q242 (
                    bnd (F.conv .i64 x0.2.2.1) fun v243 =>
                    bnd (F.and .i64 q3 2) fun v244 =>
                    bnd (F.gt v244 0) fun v245 =>
                    obind (code_fits v243 0 7 v245) fun q246 =>
                    bite q246 (
                      bnd (F.conv .i64 x0.2.2.2.1) fun v247 =>
                      bnd (F.and .i64 q3 4) fun v248 =>
                      bnd (F.gt v248 0) fun v249 =>
                      obind (code_fits v247 0 7 v249) fun q250 =>
                      bite q250 (
                        bnd (F.and .i64 q3 8) fun v251 =>
                        bnd (F.gt v251 0) fun v252 =>
                        obind (code_fits x0.2.2.2.2 0 0 v252) fun q253 =>
                        some q253) (
                        some false)) (
                      some false)) (
                    some false)) (
                  some false)) (
                some false)) (
              some false)) (
            bnd (F.gt q3 0) fun v254 =>
            bite v254 (
              bnd (F.ge x1 0) fun v255 =>
              bite v255 (
                bnd (F.lt x1 x2) fun v256 =>
                bite v256 (
                  bnd (F.conv .i64 x0.2.1) fun v257 =>
                  bnd (F.and .i64 q3 1) fun v258 =>
                  bnd (F.gt v258 0) fun v259 =>
                  obind (code_fits v257 0 7 v259) fun q260 =>
                  bite q260 (
                    bnd (F.conv .i64 x0.2.2.1) fun v261 =>
                    bnd (F.and .i64 q3 2) fun v262 =>
                    bnd (F.gt v262 0) fun v263 =>
                    obind (code_fits v261 0 7 v263) fun q264 =>
                    bite q264 (
                      bnd (F.conv .i64 x0.2.2.2.1) fun v265 =>
                      bnd (F.and .i64 q3 4) fun v266 =>
                      bnd (F.gt v266 0) fun v267 =>
                      obind (code_fits v265 0 7 v267) fun q268 =>
                      bite q268 (
                        bnd (F.and .i64 q3 8) fun v269 =>
                        bnd (F.gt v269 0) fun v270 =>
                        obind (code_fits x0.2.2.2.2 0 0 v270) fun q271 =>
                        some q271) (
                        some false)) (
                      some false)) (
                    some false)) (
                  some false)) (
                some false)) (
              some false))))))

noncomputable def code_Check_l1 (fl : Nat) : Nat → (List (Int × Int × Int × Int × Int)) → (List (Int × Int × Int × Int × Int)) → Int → Int → Option (((Unit) ⊕ (Unit)))
  | 0, _, _, _, _ => none
  | n + 1, x0, x1, x2, x3 =>
    bnd (F.lt x3 x2) fun v4 =>
    bite v4 (
      obind (F.get x1 x3) fun q5 =>
      bnd (F.len x0) fun v6 =>
      obind (code_One q5 x3 v6) fun q7 =>
      bnd (F.not q7) fun v8 =>
      bite v8 (
        some (.inl ())) (
        bnd (F.add .i64 x3 1) fun v9 =>
        code_Check_l1 fl n x0 x1 x2 v9)) (
      some (.inr ()))

/-- glazier/code.Check -/
noncomputable def code_Check (fl : Nat) (x0 : List (Int × Int × Int × Int × Int)) : Option (Int) :=
  bnd (F.len x0) fun v1 =>
  bnd (F.eq v1 0) fun v2 =>
  bite v2 (
    some 23) (
    bnd (F.len x0) fun v3 =>
    bnd (F.gt v3 32) fun v4 =>
    bite v4 (
      some 23) (
      bnd (F.len x0) fun v5 =>
      obind (code_Check_l1 fl fl x0 x0 v5 0) fun q6 =>
      osum q6 (fun s7 =>
        some 23) (fun r8 =>
        some 0)))

noncomputable def slices_IndexFunc_l1 (fl : Nat) : Nat → (List (Int × Int × Int × Int × Int)) → Unit → Int → Int → Option (((Int × Unit) ⊕ (Unit)))
  | 0, _, _, _, _ => none
  | n + 1, x0, x1, x2, x3 =>
    bnd (F.lt x3 x2) fun v4 =>
    bite v4 (
      obind (F.get x0 x3) fun q5 =>
      obind (code_asks q5) fun q6 =>
      bite q6 (
        some (.inl (x3, ()))) (
        bnd (F.add .i64 x3 1) fun v7 =>
        slices_IndexFunc_l1 fl n x0 () x2 v7)) (
      some (.inr ()))

/-- slices.IndexFunc[[]glazier/api.Ins,glazier/api.Ins] -/
noncomputable def slices_IndexFunc (fl : Nat) (x0 : List (Int × Int × Int × Int × Int)) (x1 : Unit) : Option (Int) :=
  bnd (F.len x0) fun v2 =>
  obind (slices_IndexFunc_l1 fl fl x0 () v2 0) fun q3 =>
  osum q3 (fun s4 =>
    some s4.1) (fun r5 =>
    some (-1))

/-- slices.ContainsFunc[[]glazier/api.Ins,glazier/api.Ins] -/
noncomputable def slices_ContainsFunc (fl : Nat) (x0 : List (Int × Int × Int × Int × Int)) (x1 : Unit) : Option (Bool) :=
  obind (slices_IndexFunc fl x0 ()) fun q2 =>
  bnd (F.ge q2 0) fun v3 =>
  some v3

/-- glazier/code.Samples -/
noncomputable def code_Samples (fl : Nat) (x0 : List (Int × Int × Int × Int × Int)) : Option (Bool) :=
  obind (slices_ContainsFunc fl x0 ()) fun q1 =>
  some q1

noncomputable def texture_sides_l1 (fl : Nat) : Nat → (List (Int)) → Int → Int → Option (((Unit) ⊕ (Unit)))
  | 0, _, _, _ => none
  | n + 1, x0, x1, x2 =>
    bnd (F.lt x2 x1) fun v3 =>
    bite v3 (
      obind (F.get x0 x2) fun q4 =>
      bnd (F.lt q4 1) fun v5 =>
      bite v5 (
        some (.inl ())) (
        bnd (F.gt q4 16) fun v6 =>
        bite v6 (
          some (.inl ())) (
          bnd (F.add .i64 x2 1) fun v7 =>
          texture_sides_l1 fl n x0 x1 v7))) (
      some (.inr ()))

/-- glazier/texture.sides -/
noncomputable def texture_sides (fl : Nat) (x0 : List (Int)) : Option (Bool) :=
  bnd (F.len x0) fun v1 =>
  obind (texture_sides_l1 fl fl x0 v1 0) fun q2 =>
  osum q2 (fun s3 =>
    some false) (fun r4 =>
    some true)

/-- glazier/texture.Right -/
noncomputable def texture_Right (fl : Nat) (x0 : Int × Int × List (Int × Int × Int × Int)) : Option (Bool) :=
  obind (texture_sides fl [x0.1, x0.2.1]) fun q1 =>
  bite q1 (
    bnd (F.len x0.2.2) fun v2 =>
    bnd (F.mul .i64 x0.1 x0.2.1) fun v3 =>
    bnd (F.eq v2 v3) fun v4 =>
    some v4) (
    some false)

noncomputable def vm_Run_j1 (fl : Nat) (x0 : List (Int × Int × Int × Int × Int)) (x1 : Int) (x2 : Int) (x3 : List (Int × Int × Int × Int)) (x4 : Int) (x5 : Int) (x6 : Int) (x7 : Int) (x8 : Int) (x9 : Int) (x10 : Int) (x11 : Int) : Option (((Int × Unit) ⊕ ((List (Int × Int × Int × Int × Int)) × Int × Int × (List (Int × Int × Int × Int)) × Int × Int × Int × Int × Int × Int × Int × Int × Unit))) :=
    obind (code_Check fl x0) fun q12 =>
    bnd (F.ne q12 0) fun v13 =>
    bite v13 (
      some (.inl (23, ()))) (
      obind (code_Samples fl x0) fun q14 =>
      bite q14 (
        obind (texture_Right fl (x1, (x2, x3))) fun q15 =>
        bnd (F.not q15) fun v16 =>
        bite v16 (
          some (.inl (22, ()))) (
          some (.inr (x0, (x1, (x2, (x3, (x4, (x5, (x6, (x7, (x8, (x9, (x10, (x11, ()))))))))))))))) (
        some (.inr (x0, (x1, (x2, (x3, (x4, (x5, (x6, (x7, (x8, (x9, (x10, (x11, ())))))))))))))))

/-- glazier/vm.wrap -/
noncomputable def vm_wrap (x0 : Int) : Option (Int) :=
  bnd (F.conv .i32 x0) fun v1 =>
  bnd (F.conv .i64 v1) fun v2 =>
  some v2

/-- glazier/code.Target -/
noncomputable def code_Target (x0 : Int × Int × Int × Int × Int) (x1 : Int) : Option (Int) :=
  bnd (F.ne x0.1 12) fun v2 =>
  bite v2 (
    bnd (F.add .i64 x1 1) fun v3 =>
    some v3) (
    bnd (F.add .i64 x1 1) fun v4 =>
    bnd (F.add .i64 v4 x0.2.2.2.2) fun v5 =>
    some v5)

/-- glazier/fixed.size -/
noncomputable def fixed_size (x0 : Int) : Option (Int) :=
  bnd (F.neg .i64 x0) fun v1 =>
  bnd (F.max x0 v1) fun v2 =>
  bnd (F.conv .u64 v2) fun v3 =>
  some v3

/-- math/bits.Mul64 -/
noncomputable def bits_Mul64 (x0 : Int) (x1 : Int) : Option (Int × Int) :=
  bnd (F.and .u64 x0 4294967295) fun v2 =>
  bnd (F.shr .u64 x0 32) fun v3 =>
  bnd (F.and .u64 x1 4294967295) fun v4 =>
  bnd (F.shr .u64 x1 32) fun v5 =>
  bnd (F.mul .u64 v2 v4) fun v6 =>
  bnd (F.mul .u64 v3 v4) fun v7 =>
  bnd (F.shr .u64 v6 32) fun v8 =>
  bnd (F.add .u64 v7 v8) fun v9 =>
  bnd (F.and .u64 v9 4294967295) fun v10 =>
  bnd (F.shr .u64 v9 32) fun v11 =>
  bnd (F.mul .u64 v2 v5) fun v12 =>
  bnd (F.add .u64 v10 v12) fun v13 =>
  bnd (F.mul .u64 v3 v5) fun v14 =>
  bnd (F.add .u64 v14 v11) fun v15 =>
  bnd (F.shr .u64 v13 32) fun v16 =>
  bnd (F.add .u64 v15 v16) fun v17 =>
  bnd (F.mul .u64 x0 x1) fun v18 =>
  some (v17, v18)

/-- math/bits.LeadingZeros64 -/
noncomputable def bits_LeadingZeros64 (x0 : Int) : Option (Int) :=
  none

noncomputable def bits_Div64_l1 (fl : Nat) : Nat → Int → Int → Int → Int → Int → Int → Int → Int → Int → Option (Int × Int × Int × Int × Int × Int × Int × Int × Unit)
  | 0, _, _, _, _, _, _, _, _, _ => none
  | n + 1, x0, x1, x2, x3, x4, x5, x6, x7, x8 =>
    bnd (F.ge x7 4294967296) fun v9 =>
    bite v9 (
      bnd (F.sub .u64 x7 1) fun v10 =>
      bnd (F.add .u64 x8 x2) fun v11 =>
      bnd (F.ge v11 4294967296) fun v12 =>
      bite v12 (
        some (x0, (x1, (x2, (x3, (x4, (x5, (x6, (v10, ()))))))))) (
        bits_Div64_l1 fl n x0 x1 x2 x3 x4 x5 x6 v10 v11)) (
      bnd (F.mul .u64 x7 x3) fun v13 =>
      bnd (F.mul .u64 4294967296 x8) fun v14 =>
      bnd (F.add .u64 v14 x5) fun v15 =>
      bnd (F.gt v13 v15) fun v16 =>
      bite v16 (
        bnd (F.sub .u64 x7 1) fun v17 =>
        bnd (F.add .u64 x8 x2) fun v18 =>
        bnd (F.ge v18 4294967296) fun v19 =>
        bite v19 (
          some (x0, (x1, (x2, (x3, (x4, (x5, (x6, (v17, ()))))))))) (
          bits_Div64_l1 fl n x0 x1 x2 x3 x4 x5 x6 v17 v18)) (
        some (x0, (x1, (x2, (x3, (x4, (x5, (x6, (x7, ()))))))))))

noncomputable def bits_Div64_l2 (fl : Nat) : Nat → Int → Int → Int → Int → Int → Int → Int → Int → Int → Option (Int × Int × Int × Int × Int × Int × Unit)
  | 0, _, _, _, _, _, _, _, _, _ => none
  | n + 1, x0, x1, x2, x3, x4, x5, x6, x7, x8 =>
    bnd (F.ge x8 4294967296) fun v9 =>
    bite v9 (
      bnd (F.sub .u64 x8 1) fun v10 =>
      bnd (F.add .u64 x6 x2) fun v11 =>
      bnd (F.ge v11 4294967296) fun v12 =>
      bite v12 (
        some (x0, (x1, (x4, (x5, (x7, (v10, ()))))))) (
        bits_Div64_l2 fl n x0 x1 x2 x3 x4 x5 v11 x7 v10)) (
      bnd (F.mul .u64 x8 x3) fun v13 =>
      bnd (F.mul .u64 4294967296 x6) fun v14 =>
      bnd (F.add .u64 v14 x4) fun v15 =>
      bnd (F.gt v13 v15) fun v16 =>
      bite v16 (
        bnd (F.sub .u64 x8 1) fun v17 =>
        bnd (F.add .u64 x6 x2) fun v18 =>
        bnd (F.ge v18 4294967296) fun v19 =>
        bite v19 (
          some (x0, (x1, (x4, (x5, (x7, (v17, ()))))))) (
          bits_Div64_l2 fl n x0 x1 x2 x3 x4 x5 v18 x7 v17)) (
        some (x0, (x1, (x4, (x5, (x7, (x8, ()))))))))

/-- math/bits.Div64 -/
noncomputable def bits_Div64 (fl : Nat) (x0 : Int) (x1 : Int) (x2 : Int) : Option (Int × Int) :=
  bnd (F.eq x2 0) fun v3 =>
  bite v3 (
    none) (
    bnd (F.le x2 x0) fun v4 =>
    bite v4 (
      none) (
      bnd (F.eq x0 0) fun v5 =>
      bite v5 (
        bgd (F.nonzero x2) (
          bnd (F.quo .u64 x1 x2) fun v6 =>
          bgd (F.nonzero x2) (
            bnd (F.rem x1 x2) fun v7 =>
            some (v6, v7)))) (
        obind (bits_LeadingZeros64 x2) fun q8 =>
        bnd (F.conv .u64 q8) fun v9 =>
        bgd (F.nonneg v9) (
          bnd (F.shl .u64 x2 v9) fun v10 =>
          bnd (F.shr .u64 v10 32) fun v11 =>
          bnd (F.and .u64 v10 4294967295) fun v12 =>
          bgd (F.nonneg v9) (
            bnd (F.shl .u64 x0 v9) fun v13 =>
            bnd (F.sub .u64 64 v9) fun v14 =>
            bgd (F.nonneg v14) (
              bnd (F.shr .u64 x1 v14) fun v15 =>
              bnd (F.or .u64 v13 v15) fun v16 =>
              bgd (F.nonneg v9) (
                bnd (F.shl .u64 x1 v9) fun v17 =>
                bnd (F.shr .u64 v17 32) fun v18 =>
                bnd (F.and .u64 v17 4294967295) fun v19 =>
                bgd (F.nonzero v11) (
                  bnd (F.quo .u64 v16 v11) fun v20 =>
                  bnd (F.mul .u64 v20 v11) fun v21 =>
                  bnd (F.sub .u64 v16 v21) fun v22 =>
                  obind (bits_Div64_l1 fl fl v10 v9 v11 v12 v16 v18 v19 v20 v22) fun q23 =>
                  bnd (F.mul .u64 q23.2.2.2.2.1 4294967296) fun v24 =>
                  bnd (F.add .u64 v24 q23.2.2.2.2.2.1) fun v25 =>
                  bnd (F.mul .u64 q23.2.2.2.2.2.2.2.1 q23.1) fun v26 =>
                  bnd (F.sub .u64 v25 v26) fun v27 =>
                  bgd (F.nonzero q23.2.2.1) (
                    bnd (F.quo .u64 v27 q23.2.2.1) fun v28 =>
                    bnd (F.mul .u64 v28 q23.2.2.1) fun v29 =>
                    bnd (F.sub .u64 v27 v29) fun v30 =>
                    obind (bits_Div64_l2 fl fl q23.1 q23.2.1 q23.2.2.1 q23.2.2.2.1 q23.2.2.2.2.2.2.1 q23.2.2.2.2.2.2.2.1 v30 v27 v28) fun q31 =>
                    bnd (F.mul .u64 q31.2.2.2.1 4294967296) fun v32 =>
                    bnd (F.add .u64 v32 q31.2.2.2.2.2.1) fun v33 =>
                    bnd (F.mul .u64 q31.2.2.2.2.1 4294967296) fun v34 =>
                    bnd (F.add .u64 v34 q31.2.2.1) fun v35 =>
                    bnd (F.mul .u64 q31.2.2.2.2.2.1 q31.1) fun v36 =>
                    bnd (F.sub .u64 v35 v36) fun v37 =>
                    bgd (F.nonneg q31.2.1) (
                      bnd (F.shr .u64 v37 q31.2.1) fun v38 =>
                      some (v33, v38)))))))))))

/-- glazier/fixed.checked -/
noncomputable def fixed_checked (x0 : Int) (x1 : Bool) : Option (Int × Int) :=
  bnd (F.not x1) fun v2 =>
  bite v2 (
    some (0, 2)) (
    some (x0, 0))

/-- glazier/fixed.signed -/
noncomputable def fixed_signed (x0 : Int) (x1 : Bool) : Option (Int × Int) :=
  bite x1 (
    bnd (F.neg .u64 x0) fun v2 =>
    bnd (F.conv .i64 v2) fun v3 =>
    bnd (F.le x0 9223372036854775808) fun v4 =>
    obind (fixed_checked v3 v4) fun q5 =>
    some q5) (
    bnd (F.conv .i64 x0) fun v6 =>
    bnd (F.le x0 9223372036854775807) fun v7 =>
    obind (fixed_checked v6 v7) fun q8 =>
    some q8)

/-- glazier/fixed.MulDiv -/
noncomputable def fixed_MulDiv (fl : Nat) (x0 : Int) (x1 : Int) (x2 : Int) : Option (Int × Int) :=
  bnd (F.eq x2 0) fun v3 =>
  bite v3 (
    some (0, 3)) (
    obind (fixed_size x0) fun q4 =>
    obind (fixed_size x1) fun q5 =>
    obind (bits_Mul64 q4 q5) fun q6 =>
    obind (fixed_size x2) fun q7 =>
    bnd (F.ge q6.1 q7) fun v8 =>
    bite v8 (
      some (0, 2)) (
      obind (bits_Div64 fl q6.1 q6.2 q7) fun q9 =>
      bnd (F.lt x0 0) fun v10 =>
      bnd (F.lt x1 0) fun v11 =>
      bnd (F.bne v10 v11) fun v12 =>
      bnd (F.lt x2 0) fun v13 =>
      bnd (F.bne v12 v13) fun v14 =>
      bite v14 (
        bnd (F.gt q9.2 0) fun v15 =>
        bite v15 (
          bnd (F.add .u64 q9.1 1) fun v16 =>
          bnd (F.eq v16 0) fun v17 =>
          bite v17 (
            some (0, 2)) (
            obind (fixed_signed v16 v14) fun q18 =>
            some q18)) (
          obind (fixed_signed q9.1 v14) fun q19 =>
          some q19)) (
        obind (fixed_signed q9.1 v14) fun q20 =>
        some q20)))

/-- glazier/fixed.Floor -/
noncomputable def fixed_Floor (fl : Nat) (x0 : Int) (x1 : Int) : Option (Int × Int) :=
  obind (fixed_MulDiv fl x0 1 x1) fun q2 =>
  some q2

/-- glazier/texture.cut -/
noncomputable def texture_cut (fl : Nat) (x0 : Int) : Option (Int × Int) :=
  obind (fixed_Floor fl x0 16) fun q1 =>
  bnd (F.mul .i64 16 q1.1) fun v2 =>
  bnd (F.sub .i64 x0 v2) fun v3 =>
  some (q1.1, v3)

/-- glazier/texture.Texel -/
noncomputable def texture_Texel (fl : Nat) (x0 : Int × Int × List (Int × Int × Int × Int)) (x1 : Int) (x2 : Int) : Option (Int × Int × Int × Int) :=
  obind (texture_Right fl x0) fun q3 =>
  bnd (F.not q3) fun v4 =>
  bite v4 (
    some (0, (0, (0, 0)))) (
    bgd (F.nonzero x0.1) (
      bnd (F.rem x1 x0.1) fun v5 =>
      bnd (F.add .i64 v5 x0.1) fun v6 =>
      bgd (F.nonzero x0.1) (
        bnd (F.rem v6 x0.1) fun v7 =>
        bgd (F.nonzero x0.2.1) (
          bnd (F.rem x2 x0.2.1) fun v8 =>
          bnd (F.add .i64 v8 x0.2.1) fun v9 =>
          bgd (F.nonzero x0.2.1) (
            bnd (F.rem v9 x0.2.1) fun v10 =>
            bnd (F.mul .i64 v10 x0.1) fun v11 =>
            bnd (F.add .i64 v11 v7) fun v12 =>
            obind (F.get x0.2.2 v12) fun q13 =>
            some q13)))))

/-- glazier/texture.Nearest -/
noncomputable def texture_Nearest (fl : Nat) (x0 : Int × Int × List (Int × Int × Int × Int)) (x1 : Int) (x2 : Int) : Option (Int × Int × Int × Int) :=
  obind (texture_cut fl x1) fun q3 =>
  obind (texture_cut fl x2) fun q4 =>
  obind (texture_Texel fl x0 q3.1 q4.1) fun q5 =>
  some q5

/-- glazier/colour.Mix$1 -/
noncomputable def colour_Mix_1 (x0 : Int) (x1 : Int) (x2 : Int) : Option (Int) :=
  bnd (F.sub .i64 256 x2) fun v3 =>
  bnd (F.mul .i64 x0 v3) fun v4 =>
  bnd (F.mul .i64 x1 x2) fun v5 =>
  bnd (F.add .i64 v4 v5) fun v6 =>
  bnd (F.add .i64 v6 128) fun v7 =>
  bnd (F.quo .i64 v7 256) fun v8 =>
  some v8

/-- glazier/fixed.Sat -/
noncomputable def fixed_Sat (x0 : Int) : Option (Int) :=
  bnd (F.max x0 0) fun v1 =>
  bnd (F.min v1 255) fun v2 =>
  bnd (F.conv .u8 v2) fun v3 =>
  some v3

/-- glazier/colour.each$1 -/
noncomputable def colour_each_1 (x0 : Int) (x1 : Int) (x2 : Int) : Option (Int) :=
  bnd (F.conv .i64 x0) fun v3 =>
  bnd (F.conv .i64 x1) fun v4 =>
  obind (colour_Mix_1 v3 v4 x2) fun q5 =>
  obind (fixed_Sat q5) fun q6 =>
  some q6

/-- glazier/colour.each -/
noncomputable def colour_each (x0 : Int × Int × Int × Int) (x1 : Int × Int × Int × Int) (x2 : Int) : Option (Int × Int × Int × Int) :=
  obind (colour_each_1 x0.1 x1.1 x2) fun q3 =>
  obind (colour_each_1 x0.2.1 x1.2.1 x2) fun q4 =>
  obind (colour_each_1 x0.2.2.1 x1.2.2.1 x2) fun q5 =>
  obind (colour_each_1 x0.2.2.2 x1.2.2.2 x2) fun q6 =>
  some (q3, (q4, (q5, q6)))

/-- glazier/colour.Mix -/
noncomputable def colour_Mix (x0 : Int × Int × Int × Int) (x1 : Int × Int × Int × Int) (x2 : Int) : Option (Int × Int × Int × Int) :=
  bnd (F.max x2 0) fun v3 =>
  bnd (F.min v3 256) fun v4 =>
  obind (colour_each x0 x1 v4) fun q5 =>
  some q5

/-- glazier/texture.Smooth$1 -/
noncomputable def texture_Smooth_1 (fl : Nat) (x0 : Int) (x1 : Int × Int × List (Int × Int × Int × Int)) (x2 : Int) (x3 : Int) : Option (Int × Int × Int × Int) :=
  obind (texture_Texel fl x1 x2 x0) fun q4 =>
  bnd (F.add .i64 x2 1) fun v5 =>
  obind (texture_Texel fl x1 v5 x0) fun q6 =>
  bnd (F.mul .i64 16 x3) fun v7 =>
  obind (colour_Mix q4 q6 v7) fun q8 =>
  some q8

/-- glazier/texture.Smooth -/
noncomputable def texture_Smooth (fl : Nat) (x0 : Int × Int × List (Int × Int × Int × Int)) (x1 : Int) (x2 : Int) : Option (Int × Int × Int × Int) :=
  bnd (F.sub .i64 x1 8) fun v3 =>
  obind (texture_cut fl v3) fun q4 =>
  bnd (F.sub .i64 x2 8) fun v5 =>
  obind (texture_cut fl v5) fun q6 =>
  obind (texture_Smooth_1 fl q6.1 x0 q4.1 q4.2) fun q7 =>
  bnd (F.add .i64 q6.1 1) fun v8 =>
  obind (texture_Smooth_1 fl v8 x0 q4.1 q4.2) fun q9 =>
  bnd (F.mul .i64 16 q6.2) fun v10 =>
  obind (colour_Mix q7 q9 v10) fun q11 =>
  some q11

/-- glazier/vm.bit -/
noncomputable def vm_bit (x0 : Bool) : Option (Int) :=
  bite x0 (
    some 1) (
    some 0)

/-- glazier/vm.value -/
noncomputable def vm_value (x0 : Int × Int × Int × Int × Int) (x1 : Int) (x2 : Int) : Option (Int) :=
  bnd (F.eq x0.1 0) fun v3 =>
  bite v3 (
    some x0.2.2.2.2) (
    bnd (F.eq x0.1 1) fun v4 =>
    bite v4 (
      some x1) (
      bnd (F.eq x0.1 2) fun v5 =>
      bite v5 (
        bnd (F.add .i64 x1 x2) fun v6 =>
        some v6) (
        bnd (F.eq x0.1 3) fun v7 =>
        bite v7 (
          bnd (F.sub .i64 x1 x2) fun v8 =>
          some v8) (
          bnd (F.eq x0.1 4) fun v9 =>
          bite v9 (
            bnd (F.mul .i64 x1 x2) fun v10 =>
            bnd (F.shr .i64 v10 8) fun v11 =>
            some v11) (
            bnd (F.eq x0.1 5) fun v12 =>
            bite v12 (
              bnd (F.min x1 x2) fun v13 =>
              some v13) (
              bnd (F.eq x0.1 6) fun v14 =>
              bite v14 (
                bnd (F.max x1 x2) fun v15 =>
                some v15) (
                bnd (F.eq x0.1 7) fun v16 =>
                bite v16 (
                  bnd (F.and .i64 x1 x2) fun v17 =>
                  some v17) (
                  bnd (F.eq x0.1 8) fun v18 =>
                  bite v18 (
                    bnd (F.or .i64 x1 x2) fun v19 =>
                    some v19) (
                    bnd (F.eq x0.1 9) fun v20 =>
                    bite v20 (
                      bgd (F.nonneg x0.2.2.2.2) (
                        bnd (F.shl .i64 x1 x0.2.2.2.2) fun v21 =>
                        some v21)) (
                      bnd (F.eq x0.1 10) fun v22 =>
                      bite v22 (
                        bgd (F.nonneg x0.2.2.2.2) (
                          bnd (F.shr .i64 x1 x0.2.2.2.2) fun v23 =>
                          some v23)) (
                        bnd (F.lt x1 x2) fun v24 =>
                        obind (vm_bit v24) fun q25 =>
                        some q25)))))))))))

noncomputable def vm_Run_i26_l1 (fl : Nat) : Nat → Int → (List (Int)) → Int → Int → (List (Int × Int × Int × Int × Int)) → Int → Int → Int → Int → Int → (List (Int × Int × Int × Int)) → Int → Int → Int → Int → Int → Int → Int → Int → Option ((List (Int × Int × Int × Int × Int)) × Int × Int × Int × Int × Int × (List (Int × Int × Int × Int)) × Int × Int × Int × Int × Int × Int × Int × Int × Unit)
  | 0, _, _, _, _, _, _, _, _, _, _, _, _, _, _, _, _, _, _, _ => none
  | n + 1, x0, x1, x2, x3, x4, x5, x6, x7, x8, x9, x10, x11, x12, x13, x14, x15, x16, x17, x18 =>
    bnd (F.lt x3 x2) fun v19 =>
    bite v19 (
      obind (F.get x1 x3) fun q20 =>
      bnd (F.conv .i64 x0) fun v21 =>
      bnd (F.add .i64 v21 x3) fun v22 =>
      obind (vm_wrap q20) fun q23 =>
      bgd (F.within v22 8) (
        bnd (F.add .i64 x3 1) fun v24 =>
        vm_Run_i26_l1 fl n x0 x1 x2 v24 x4 x5 x6 x7 x8 x9 x10 (F.pick v22 0 q23 x11) (F.pick v22 1 q23 x12) (F.pick v22 2 q23 x13) (F.pick v22 3 q23 x14) (F.pick v22 4 q23 x15) (F.pick v22 5 q23 x16) (F.pick v22 6 q23 x17) (F.pick v22 7 q23 x18))) (
      some (x4, (x5, (x6, (x7, (x8, (x9, (x10, (x11, (x12, (x13, (x14, (x15, (x16, (x17, (x18, ()))))))))))))))))

noncomputable def vm_Run_i26_l2 (fl : Nat) : Nat → Int → (List (Int)) → Int → Int → (List (Int × Int × Int × Int × Int)) → Int → Int → Int → Int → Int → (List (Int × Int × Int × Int)) → Int → Int → Int → Int → Int → Int → Int → Int → Option ((List (Int × Int × Int × Int × Int)) × Int × Int × Int × Int × Int × (List (Int × Int × Int × Int)) × Int × Int × Int × Int × Int × Int × Int × Int × Unit)
  | 0, _, _, _, _, _, _, _, _, _, _, _, _, _, _, _, _, _, _, _ => none
  | n + 1, x0, x1, x2, x3, x4, x5, x6, x7, x8, x9, x10, x11, x12, x13, x14, x15, x16, x17, x18 =>
    bnd (F.lt x3 x2) fun v19 =>
    bite v19 (
      obind (F.get x1 x3) fun q20 =>
      bnd (F.conv .i64 x0) fun v21 =>
      bnd (F.add .i64 v21 x3) fun v22 =>
      obind (vm_wrap q20) fun q23 =>
      bgd (F.within v22 8) (
        bnd (F.add .i64 x3 1) fun v24 =>
        vm_Run_i26_l2 fl n x0 x1 x2 v24 x4 x5 x6 x7 x8 x9 x10 (F.pick v22 0 q23 x11) (F.pick v22 1 q23 x12) (F.pick v22 2 q23 x13) (F.pick v22 3 q23 x14) (F.pick v22 4 q23 x15) (F.pick v22 5 q23 x16) (F.pick v22 6 q23 x17) (F.pick v22 7 q23 x18))) (
      some (x4, (x5, (x6, (x7, (x8, (x9, (x10, (x11, (x12, (x13, (x14, (x15, (x16, (x17, (x18, ()))))))))))))))))

noncomputable def vm_Run_i26_l3 (fl : Nat) : Nat → Int → (List (Int)) → Int → Int → (List (Int × Int × Int × Int × Int)) → Int → Int → Int → Int → Int → (List (Int × Int × Int × Int)) → Int → Int → Int → Int → Int → Int → Int → Int → Option ((List (Int × Int × Int × Int × Int)) × Int × Int × Int × Int × Int × (List (Int × Int × Int × Int)) × Int × Int × Int × Int × Int × Int × Int × Int × Unit)
  | 0, _, _, _, _, _, _, _, _, _, _, _, _, _, _, _, _, _, _, _ => none
  | n + 1, x0, x1, x2, x3, x4, x5, x6, x7, x8, x9, x10, x11, x12, x13, x14, x15, x16, x17, x18 =>
    bnd (F.lt x3 x2) fun v19 =>
    bite v19 (
      obind (F.get x1 x3) fun q20 =>
      bnd (F.conv .i64 x0) fun v21 =>
      bnd (F.add .i64 v21 x3) fun v22 =>
      obind (vm_wrap q20) fun q23 =>
      bgd (F.within v22 8) (
        bnd (F.add .i64 x3 1) fun v24 =>
        vm_Run_i26_l3 fl n x0 x1 x2 v24 x4 x5 x6 x7 x8 x9 x10 (F.pick v22 0 q23 x11) (F.pick v22 1 q23 x12) (F.pick v22 2 q23 x13) (F.pick v22 3 q23 x14) (F.pick v22 4 q23 x15) (F.pick v22 5 q23 x16) (F.pick v22 6 q23 x17) (F.pick v22 7 q23 x18))) (
      some (x4, (x5, (x6, (x7, (x8, (x9, (x10, (x11, (x12, (x13, (x14, (x15, (x16, (x17, (x18, ()))))))))))))))))

noncomputable def vm_Run_l2 (fl : Nat) : Nat → (List (Int × Int × Int × Int × Int)) → Int → Int → Int → Int → (List (Int × Int × Int × Int)) → Int → Int → Int → Int → Int → Int → Int → Int → Option (Int × Int × Int × Int × Int × Int × Int × Int × Int × Unit)
  | 0, _, _, _, _, _, _, _, _, _, _, _, _, _, _ => none
  | n + 1, x0, x1, x2, x3, x4, x5, x6, x7, x8, x9, x10, x11, x12, x13 =>
    bnd (F.len x0) fun v14 =>
    bnd (F.lt x2 v14) fun v15 =>
    bite v15 (
      obind (F.get x0 x2) fun q16 =>
      bgd (F.within q16.2.2.1 8) (
        obind (F.get [x6, x7, x8, x9, x10, x11, x12, x13] q16.2.2.1) fun q17 =>
        bgd (F.within q16.2.2.2.1 8) (
          obind (F.get [x6, x7, x8, x9, x10, x11, x12, x13] q16.2.2.2.1) fun q18 =>
          bnd (F.add .i64 x2 1) fun v19 =>
          bnd (F.eq q16.1 12) fun v20 =>
          bite v20 (
            bnd (F.ne q17 0) fun v21 =>
            bite v21 (
              bnd (F.sub .i64 v19 1) fun v22 =>
              obind (code_Target q16 v22) fun q23 =>
              bnd (F.add .i64 x1 1) fun v24 =>
              vm_Run_l2 fl n x0 v24 q23 x3 x4 x5 x6 x7 x8 x9 x10 x11 x12 x13) (
              bnd (F.add .i64 x1 1) fun v25 =>
              vm_Run_l2 fl n x0 v25 v19 x3 x4 x5 x6 x7 x8 x9 x10 x11 x12 x13)) (
            bnd (F.eq q16.1 13) fun v26 =>
            bite v26 (
              obind (texture_Nearest fl (x3, (x4, x5)) q17 q18) fun q27 =>
              bnd (F.conv .i64 q27.1) fun v28 =>
              bnd (F.conv .i64 q27.2.1) fun v29 =>
              bnd (F.conv .i64 q27.2.2.1) fun v30 =>
              bnd (F.conv .i64 q27.2.2.2) fun v31 =>
              bnd (F.len [v28, v29, v30, v31]) fun v32 =>
              obind (vm_Run_i26_l1 fl fl q16.2.1 [v28, v29, v30, v31] v32 0 x0 x1 v19 q16.2.1 x3 x4 x5 x6 x7 x8 x9 x10 x11 x12 x13) fun q33 =>
              bnd (F.add .i64 q33.2.1 1) fun v34 =>
              vm_Run_l2 fl n q33.1 v34 q33.2.2.1 q33.2.2.2.2.1 q33.2.2.2.2.2.1 q33.2.2.2.2.2.2.1 q33.2.2.2.2.2.2.2.1 q33.2.2.2.2.2.2.2.2.1 q33.2.2.2.2.2.2.2.2.2.1 q33.2.2.2.2.2.2.2.2.2.2.1 q33.2.2.2.2.2.2.2.2.2.2.2.1 q33.2.2.2.2.2.2.2.2.2.2.2.2.1 q33.2.2.2.2.2.2.2.2.2.2.2.2.2.1 q33.2.2.2.2.2.2.2.2.2.2.2.2.2.2.1) (
              bnd (F.eq q16.1 14) fun v35 =>
              bite v35 (
                obind (texture_Smooth fl (x3, (x4, x5)) q17 q18) fun q36 =>
                bnd (F.conv .i64 q36.1) fun v37 =>
                bnd (F.conv .i64 q36.2.1) fun v38 =>
                bnd (F.conv .i64 q36.2.2.1) fun v39 =>
                bnd (F.conv .i64 q36.2.2.2) fun v40 =>
                bnd (F.len [v37, v38, v39, v40]) fun v41 =>
                obind (vm_Run_i26_l2 fl fl q16.2.1 [v37, v38, v39, v40] v41 0 x0 x1 v19 q16.2.1 x3 x4 x5 x6 x7 x8 x9 x10 x11 x12 x13) fun q42 =>
                bnd (F.add .i64 q42.2.1 1) fun v43 =>
                vm_Run_l2 fl n q42.1 v43 q42.2.2.1 q42.2.2.2.2.1 q42.2.2.2.2.2.1 q42.2.2.2.2.2.2.1 q42.2.2.2.2.2.2.2.1 q42.2.2.2.2.2.2.2.2.1 q42.2.2.2.2.2.2.2.2.2.1 q42.2.2.2.2.2.2.2.2.2.2.1 q42.2.2.2.2.2.2.2.2.2.2.2.1 q42.2.2.2.2.2.2.2.2.2.2.2.2.1 q42.2.2.2.2.2.2.2.2.2.2.2.2.2.1 q42.2.2.2.2.2.2.2.2.2.2.2.2.2.2.1) (
                obind (vm_value q16 q17 q18) fun q44 =>
                bnd (F.len [q44]) fun v45 =>
                obind (vm_Run_i26_l3 fl fl q16.2.1 [q44] v45 0 x0 x1 v19 q16.2.1 x3 x4 x5 x6 x7 x8 x9 x10 x11 x12 x13) fun q46 =>
                bnd (F.add .i64 q46.2.1 1) fun v47 =>
                vm_Run_l2 fl n q46.1 v47 q46.2.2.1 q46.2.2.2.2.1 q46.2.2.2.2.2.1 q46.2.2.2.2.2.2.1 q46.2.2.2.2.2.2.2.1 q46.2.2.2.2.2.2.2.2.1 q46.2.2.2.2.2.2.2.2.2.1 q46.2.2.2.2.2.2.2.2.2.2.1 q46.2.2.2.2.2.2.2.2.2.2.2.1 q46.2.2.2.2.2.2.2.2.2.2.2.2.1 q46.2.2.2.2.2.2.2.2.2.2.2.2.2.1 q46.2.2.2.2.2.2.2.2.2.2.2.2.2.2.1)))))) (
      some (x1, (x6, (x7, (x8, (x9, (x10, (x11, (x12, (x13, ()))))))))))

/-- glazier/vm.Run -/
noncomputable def vm_Run (fl : Nat) (x0 : List (Int × Int × Int × Int × Int)) (x1 : Int × Int × List (Int × Int × Int × Int)) (x2 : Int × Int × Int × Int × Int × Int × Int × Int) : Option ((Int × Int × Int × Int × Int × Int × Int × Int) × Int × Int) :=
  obind (vm_Run_j1 fl x0 x1.1 x1.2.1 x1.2.2 x2.1 x2.2.1 x2.2.2.1 x2.2.2.2.1 x2.2.2.2.2.1 x2.2.2.2.2.2.1 x2.2.2.2.2.2.2.1 x2.2.2.2.2.2.2.2) fun q3 =>
  osum q3 (fun s4 =>
    some ((0, (0, (0, (0, (0, (0, (0, 0))))))), (0, s4.1))) (fun r5 =>
    obind (vm_wrap r5.2.2.2.2.1) fun q6 =>
    obind (vm_wrap r5.2.2.2.2.2.1) fun q7 =>
    obind (vm_wrap r5.2.2.2.2.2.2.1) fun q8 =>
    obind (vm_wrap r5.2.2.2.2.2.2.2.1) fun q9 =>
    obind (vm_wrap r5.2.2.2.2.2.2.2.2.1) fun q10 =>
    obind (vm_wrap r5.2.2.2.2.2.2.2.2.2.1) fun q11 =>
    obind (vm_wrap r5.2.2.2.2.2.2.2.2.2.2.1) fun q12 =>
    obind (vm_wrap r5.2.2.2.2.2.2.2.2.2.2.2.1) fun q13 =>
    obind (vm_Run_l2 fl fl r5.1 0 0 r5.2.1 r5.2.2.1 r5.2.2.2.1 q6 q7 q8 q9 q10 q11 q12 q13) fun q14 =>
    some ((q14.2.1, (q14.2.2.1, (q14.2.2.2.1, (q14.2.2.2.2.1, (q14.2.2.2.2.2.1, (q14.2.2.2.2.2.2.1, (q14.2.2.2.2.2.2.2.1, q14.2.2.2.2.2.2.2.2.1))))))), (q14.1, 0)))

/-- glazier/glazierlaw13.shown -/
noncomputable def glazierlaw13_shown (fl : Nat)  : Option (Bool) :=
  obind (vm_Run fl [(4, (0, (0, (1, 0))))] (0, (0, [])) (512, (300, (0, (0, (0, (0, (0, 0)))))))) fun q0 =>
  bnd (F.eq q0.1.1 600) fun v1 =>
  bite v1 (
    bnd (F.eq q0.2.1 1) fun v2 =>
    bite v2 (
      bnd (F.eq q0.2.2 0) fun v3 =>
      some v3) (
      some false)) (
    some false)

/-- glazier/glazierlaw13.few -/
noncomputable def glazierlaw13_few (x0 : List (Int × Int × Int × Int × Int)) : Option (List (Int × Int × Int × Int × Int)) :=
  bnd (F.len x0) fun v1 =>
  bnd (F.gt v1 40) fun v2 =>
  bite v2 (
    bgd (F.cutOk x0 0 40) (
      bnd (F.cut x0 0 40) fun v3 =>
      some v3)) (
    some x0)

/-- glazier/glazierref12.three -/
noncomputable def glazierref12_three (x0 : Int) : Option (Bool) :=
  bnd (F.ge x0 2) fun v1 =>
  bite v1 (
    bnd (F.le x0 8) fun v2 =>
    bite v2 (
      some true) (
      bnd (F.eq x0 11) fun v3 =>
      bite v3 (
        some true) (
        bnd (F.eq x0 13) fun v4 =>
        bite v4 (
          some true) (
          bnd (F.eq x0 14) fun v5 =>
          some v5)))) (
    bnd (F.eq x0 11) fun v6 =>
    bite v6 (
      some true) (
      bnd (F.eq x0 13) fun v7 =>
      bite v7 (
        some true) (
        bnd (F.eq x0 14) fun v8 =>
        some v8)))

/-- glazier/glazierref12.One -/
noncomputable def glazierref12_One (x0 : Int × Int × Int × Int × Int) (x1 : Int) (x2 : Int) : Option (Bool) :=
  bnd (F.gt x0.2.1 7) fun v3 =>
  bite v3 (
    some false) (
    bnd (F.gt x0.2.2.1 7) fun v4 =>
    bite v4 (
      some false) (
      bnd (F.gt x0.2.2.2.1 7) fun v5 =>
      bite v5 (
        some false) (
        bnd (F.lt x1 0) fun v6 =>
        bite v6 (
          some false) (
          bnd (F.ge x1 x2) fun v7 =>
          bite v7 (
            some false) (
            obind (glazierref12_three x0.1) fun q8 =>
            bite q8 (
              bnd (F.eq x0.2.2.2.2 0) fun v9 =>
              bite v9 (
                bnd (F.lt x0.1 13) fun v10 =>
                bite v10 (
                  some true) (
                  bnd (F.le x0.2.1 4) fun v11 =>
                  some v11)) (
                some false)) (
              bnd (F.ne x0.2.2.2.1 0) fun v12 =>
              bite v12 (
                some false) (
                bnd (F.eq x0.1 0) fun v13 =>
                bite v13 (
                  bnd (F.eq x0.2.2.1 0) fun v14 =>
                  bite v14 (
                    bnd (F.ge x0.2.2.2.2 (-2147483648)) fun v15 =>
                    bite v15 (
                      bnd (F.le x0.2.2.2.2 2147483647) fun v16 =>
                      some v16) (
                      some false)) (
                    some false)) (
                  bnd (F.eq x0.1 1) fun v17 =>
                  bite v17 (
                    bnd (F.eq x0.2.2.2.2 0) fun v18 =>
                    some v18) (
                    bnd (F.eq x0.1 9) fun v19 =>
                    bite v19 (
                      bite v19 (
                        bnd (F.ge x0.2.2.2.2 0) fun v20 =>
                        bite v20 (
                          bnd (F.le x0.2.2.2.2 31) fun v21 =>
                          some v21) (
                          some false)) (
                        bnd (F.eq x0.1 12) fun v22 =>
                        bite v22 (
                          bnd (F.eq x0.2.1 0) fun v23 =>
                          bite v23 (
                            bnd (F.ge x0.2.2.2.2 0) fun v24 =>
                            bite v24 (
                              bnd (F.sub .i64 x2 x1) fun v25 =>
                              bnd (F.sub .i64 v25 1) fun v26 =>
                              bnd (F.le x0.2.2.2.2 v26) fun v27 =>
                              some v27) (
                              some false)) (
                            some false)) (
                          some false))) (
                      bnd (F.eq x0.1 10) fun v28 =>
                      bite v28 (
                        bnd (F.ge x0.2.2.2.2 0) fun v29 =>
                        bite v29 (
                          bnd (F.le x0.2.2.2.2 31) fun v30 =>
                          some v30) (
                          some false)) (
                        bnd (F.eq x0.1 12) fun v31 =>
                        bite v31 (
                          bnd (F.eq x0.2.1 0) fun v32 =>
                          bite v32 (
                            bnd (F.ge x0.2.2.2.2 0) fun v33 =>
                            bite v33 (
                              bnd (F.sub .i64 x2 x1) fun v34 =>
                              bnd (F.sub .i64 v34 1) fun v35 =>
                              bnd (F.le x0.2.2.2.2 v35) fun v36 =>
                              some v36) (
                              some false)) (
                            some false)) (
                          some false))))))))))))

noncomputable def glazierref12_Check_l1 (fl : Nat) : Nat → (List (Int × Int × Int × Int × Int)) → Int → Option (((Unit) ⊕ (Unit)))
  | 0, _, _ => none
  | n + 1, x0, x1 =>
    bnd (F.len x0) fun v2 =>
    bnd (F.lt x1 v2) fun v3 =>
    bite v3 (
      obind (F.get x0 x1) fun q4 =>
      bnd (F.len x0) fun v5 =>
      obind (glazierref12_One q4 x1 v5) fun q6 =>
      bnd (F.not q6) fun v7 =>
      bite v7 (
        some (.inl ())) (
        bnd (F.add .i64 x1 1) fun v8 =>
        glazierref12_Check_l1 fl n x0 v8)) (
      some (.inr ()))

/-- glazier/glazierref12.Check -/
noncomputable def glazierref12_Check (fl : Nat) (x0 : List (Int × Int × Int × Int × Int)) : Option (Int) :=
  bnd (F.len x0) fun v1 =>
  bnd (F.lt v1 1) fun v2 =>
  bite v2 (
    some 23) (
    bnd (F.len x0) fun v3 =>
    bnd (F.gt v3 32) fun v4 =>
    bite v4 (
      some 23) (
      obind (glazierref12_Check_l1 fl fl x0 0) fun q5 =>
      osum q5 (fun s6 =>
        some 23) (fun r7 =>
        some 0)))

noncomputable def glazierref12_Samples_l1 (fl : Nat) : Nat → (List (Int × Int × Int × Int × Int)) → Int → Option (((Unit) ⊕ (Unit)))
  | 0, _, _ => none
  | n + 1, x0, x1 =>
    bnd (F.len x0) fun v2 =>
    bnd (F.lt x1 v2) fun v3 =>
    bite v3 (
      obind (F.get x0 x1) fun q4 =>
      bnd (F.eq q4.1 13) fun v5 =>
      bite v5 (
        some (.inl ())) (
        obind (F.get x0 x1) fun q6 =>
        bnd (F.eq q6.1 14) fun v7 =>
        bite v7 (
          some (.inl ())) (
          bnd (F.add .i64 x1 1) fun v8 =>
          glazierref12_Samples_l1 fl n x0 v8))) (
      some (.inr ()))

/-- glazier/glazierref12.Samples -/
noncomputable def glazierref12_Samples (fl : Nat) (x0 : List (Int × Int × Int × Int × Int)) : Option (Bool) :=
  obind (glazierref12_Samples_l1 fl fl x0 0) fun q1 =>
  osum q1 (fun s2 =>
    some true) (fun r3 =>
    some false)

/-- glazier/glazierref11.Right -/
noncomputable def glazierref11_Right (x0 : Int × Int × List (Int × Int × Int × Int)) : Option (Bool) :=
  bnd (F.ge x0.1 1) fun v1 =>
  bite v1 (
    bnd (F.le x0.1 16) fun v2 =>
    bite v2 (
      bnd (F.ge x0.2.1 1) fun v3 =>
      bite v3 (
        bnd (F.le x0.2.1 16) fun v4 =>
        bite v4 (
          bnd (F.len x0.2.2) fun v5 =>
          bnd (F.mul .i64 x0.1 x0.2.1) fun v6 =>
          bnd (F.eq v5 v6) fun v7 =>
          some v7) (
          some false)) (
        some false)) (
      some false)) (
    some false)

/-- glazier/glazierref13.Wrap -/
noncomputable def glazierref13_Wrap (x0 : Int) : Option (Int) :=
  bnd (F.rem x0 4294967296) fun v1 =>
  bnd (F.lt v1 0) fun v2 =>
  bite v2 (
    bnd (F.add .i64 v1 4294967296) fun v3 =>
    bnd (F.ge v3 2147483648) fun v4 =>
    bite v4 (
      bnd (F.sub .i64 v3 4294967296) fun v5 =>
      some v5) (
      some v3)) (
    bnd (F.ge v1 2147483648) fun v6 =>
    bite v6 (
      bnd (F.sub .i64 v1 4294967296) fun v7 =>
      some v7) (
      some v1))

/-- glazier/glazierref12.Target -/
noncomputable def glazierref12_Target (x0 : Int × Int × Int × Int × Int) (x1 : Int) : Option (Int) :=
  bnd (F.eq x0.1 12) fun v2 =>
  bite v2 (
    bnd (F.add .i64 x1 1) fun v3 =>
    bnd (F.add .i64 v3 x0.2.2.2.2) fun v4 =>
    some v4) (
    bnd (F.add .i64 x1 1) fun v5 =>
    some v5)

/-- glazier/glazierref01.size -/
noncomputable def glazierref01_size (x0 : Int) : Option (Int) :=
  bnd (F.lt x0 0) fun v1 =>
  bite v1 (
    bnd (F.conv .u64 x0) fun v2 =>
    bnd (F.sub .u64 0 v2) fun v3 =>
    some v3) (
    bnd (F.conv .u64 x0) fun v4 =>
    some v4)

noncomputable def glazierref01_times_l1 (fl : Nat) : Nat → Int → Int → Int → Int → Int → Int → Int → Option (Int × Int × Int × Int × Unit)
  | 0, _, _, _, _, _, _, _ => none
  | n + 1, x0, x1, x2, x3, x4, x5, x6 =>
    bnd (F.ge x6 0) fun v7 =>
    bite v7 (
      bnd (F.mul .u64 x4 2) fun v8 =>
      bnd (F.quo .u64 x5 9223372036854775808) fun v9 =>
      bnd (F.add .u64 v8 v9) fun v10 =>
      bnd (F.mul .u64 x5 2) fun v11 =>
      bgd (F.nonneg x6) (
        bnd (F.shr .u64 x2 x6) fun v12 =>
        bnd (F.rem v12 2) fun v13 =>
        bnd (F.eq v13 1) fun v14 =>
        bite v14 (
          bnd (F.add .u64 v11 x3) fun v15 =>
          bnd (F.lt v15 v11) fun v16 =>
          bite v16 (
            bnd (F.add .u64 v10 1) fun v17 =>
            bnd (F.sub .i64 x6 1) fun v18 =>
            glazierref01_times_l1 fl n x0 x1 x2 x3 v17 v15 v18) (
            bnd (F.sub .i64 x6 1) fun v19 =>
            glazierref01_times_l1 fl n x0 x1 x2 x3 v10 v15 v19)) (
          bnd (F.sub .i64 x6 1) fun v20 =>
          glazierref01_times_l1 fl n x0 x1 x2 x3 v10 v11 v20))) (
      some (x0, (x1, (x4, (x5, ())))))

/-- glazier/glazierref01.times -/
noncomputable def glazierref01_times (fl : Nat) (x0 : Int) (x1 : Int) : Option (Int × Int × Bool) :=
  obind (glazierref01_size x0) fun q2 =>
  obind (glazierref01_size x1) fun q3 =>
  obind (glazierref01_times_l1 fl fl x0 x1 q2 q3 0 0 63) fun q4 =>
  bnd (F.lt q4.1 0) fun v5 =>
  bnd (F.lt q4.2.1 0) fun v6 =>
  bnd (F.bne v5 v6) fun v7 =>
  bite v7 (
    bnd (F.gt q4.2.2.1 0) fun v8 =>
    bite v8 (
      some (q4.2.2.1, (q4.2.2.2.1, true))) (
      bnd (F.gt q4.2.2.2.1 0) fun v9 =>
      some (q4.2.2.1, (q4.2.2.2.1, v9)))) (
    some (q4.2.2.1, (q4.2.2.2.1, false)))

noncomputable def glazierref01_parts_l1 (fl : Nat) : Nat → Int → Int → Int → Int → Int → Int → Int → Bool → Option (Int × Int × Int × Unit)
  | 0, _, _, _, _, _, _, _, _ => none
  | n + 1, x0, x1, x2, x3, x4, x5, x6, x7 =>
    bnd (F.ge x4 0) fun v8 =>
    bite v8 (
      bnd (F.gt x4 63) fun v9 =>
      bite v9 (
        bnd (F.sub .i64 x4 64) fun v10 =>
        bgd (F.nonneg v10) (
          bnd (F.shr .u64 x5 v10) fun v11 =>
          bnd (F.rem v11 2) fun v12 =>
          bnd (F.ge x3 9223372036854775808) fun v13 =>
          bnd (F.mul .u64 x3 2) fun v14 =>
          bnd (F.add .u64 v14 v12) fun v15 =>
          bnd (F.mul .u64 x1 2) fun v16 =>
          bnd (F.quo .u64 x2 9223372036854775808) fun v17 =>
          bnd (F.add .u64 v16 v17) fun v18 =>
          bnd (F.mul .u64 x2 2) fun v19 =>
          bite v13 (
            bnd (F.sub .u64 v15 x0) fun v20 =>
            bnd (F.add .u64 v19 1) fun v21 =>
            bnd (F.sub .i64 x4 1) fun v22 =>
            glazierref01_parts_l1 fl n x0 v18 v21 v20 v22 x5 x6 x7) (
            bnd (F.ge v15 x0) fun v23 =>
            bite v23 (
              bnd (F.sub .u64 v15 x0) fun v24 =>
              bnd (F.add .u64 v19 1) fun v25 =>
              bnd (F.sub .i64 x4 1) fun v26 =>
              glazierref01_parts_l1 fl n x0 v18 v25 v24 v26 x5 x6 x7) (
              bnd (F.sub .i64 x4 1) fun v27 =>
              glazierref01_parts_l1 fl n x0 v18 v19 v15 v27 x5 x6 x7)))) (
        bgd (F.nonneg x4) (
          bnd (F.shr .u64 x6 x4) fun v28 =>
          bnd (F.rem v28 2) fun v29 =>
          bnd (F.ge x3 9223372036854775808) fun v30 =>
          bnd (F.mul .u64 x3 2) fun v31 =>
          bnd (F.add .u64 v31 v29) fun v32 =>
          bnd (F.mul .u64 x1 2) fun v33 =>
          bnd (F.quo .u64 x2 9223372036854775808) fun v34 =>
          bnd (F.add .u64 v33 v34) fun v35 =>
          bnd (F.mul .u64 x2 2) fun v36 =>
          bite v30 (
            bnd (F.sub .u64 v32 x0) fun v37 =>
            bnd (F.add .u64 v36 1) fun v38 =>
            bnd (F.sub .i64 x4 1) fun v39 =>
            glazierref01_parts_l1 fl n x0 v35 v38 v37 v39 x5 x6 x7) (
            bnd (F.ge v32 x0) fun v40 =>
            bite v40 (
              bnd (F.sub .u64 v32 x0) fun v41 =>
              bnd (F.add .u64 v36 1) fun v42 =>
              bnd (F.sub .i64 x4 1) fun v43 =>
              glazierref01_parts_l1 fl n x0 v35 v42 v41 v43 x5 x6 x7) (
              bnd (F.sub .i64 x4 1) fun v44 =>
              glazierref01_parts_l1 fl n x0 v35 v36 v32 v44 x5 x6 x7))))) (
      some (x1, (x2, (x3, ()))))

/-- glazier/glazierref01.parts -/
noncomputable def glazierref01_parts (fl : Nat) (x0 : Int × Int × Bool) (x1 : Int) : Option (Int × Int × Int) :=
  obind (glazierref01_parts_l1 fl fl x1 0 0 0 127 x0.1 x0.2.1 x0.2.2) fun q2 =>
  some (q2.1, (q2.2.1, q2.2.2.1))

/-- glazier/glazierref01.told -/
noncomputable def glazierref01_told (x0 : Int) (x1 : Int) (x2 : Bool) : Option (Int × Int) :=
  bite x2 (
    bnd (F.gt x0 0) fun v3 =>
    bite v3 (
      some (0, 2)) (
      bnd (F.gt x1 9223372036854775808) fun v4 =>
      bite v4 (
        some (0, 2)) (
        bite x2 (
          bnd (F.sub .u64 0 x1) fun v5 =>
          bnd (F.conv .i64 v5) fun v6 =>
          some (v6, 0)) (
          bnd (F.conv .i64 x1) fun v7 =>
          some (v7, 0))))) (
    bnd (F.gt x0 0) fun v8 =>
    bite v8 (
      some (0, 2)) (
      bnd (F.gt x1 9223372036854775807) fun v9 =>
      bite v9 (
        some (0, 2)) (
        bite x2 (
          bnd (F.sub .u64 0 x1) fun v10 =>
          bnd (F.conv .i64 v10) fun v11 =>
          some (v11, 0)) (
          bnd (F.conv .i64 x1) fun v12 =>
          some (v12, 0)))))

/-- glazier/glazierref01.MulDiv -/
noncomputable def glazierref01_MulDiv (fl : Nat) (x0 : Int) (x1 : Int) (x2 : Int) : Option (Int × Int) :=
  bnd (F.eq x2 0) fun v3 =>
  bite v3 (
    some (0, 3)) (
    obind (glazierref01_times fl x0 x1) fun q4 =>
    bnd (F.lt x2 0) fun v5 =>
    bnd (F.bne q4.2.2 v5) fun v6 =>
    bite v6 (
      bnd (F.gt q4.1 0) fun v7 =>
      bite v7 (
        obind (glazierref01_size x2) fun q8 =>
        obind (glazierref01_parts fl q4 q8) fun q9 =>
        bnd (F.gt q9.2.2 0) fun v10 =>
        bite v10 (
          bnd (F.add .u64 q9.2.1 1) fun v11 =>
          bnd (F.eq v11 0) fun v12 =>
          bite v12 (
            bnd (F.add .u64 q9.1 1) fun v13 =>
            obind (glazierref01_told v13 v11 true) fun q14 =>
            some q14) (
            obind (glazierref01_told q9.1 v11 true) fun q15 =>
            some q15)) (
          obind (glazierref01_told q9.1 q9.2.1 true) fun q16 =>
          some q16)) (
        bnd (F.gt q4.2.1 0) fun v17 =>
        obind (glazierref01_size x2) fun q18 =>
        obind (glazierref01_parts fl q4 q18) fun q19 =>
        bite v17 (
          bnd (F.gt q19.2.2 0) fun v20 =>
          bite v20 (
            bnd (F.add .u64 q19.2.1 1) fun v21 =>
            bnd (F.eq v21 0) fun v22 =>
            bite v22 (
              bnd (F.add .u64 q19.1 1) fun v23 =>
              obind (glazierref01_told v23 v21 v17) fun q24 =>
              some q24) (
              obind (glazierref01_told q19.1 v21 v17) fun q25 =>
              some q25)) (
            obind (glazierref01_told q19.1 q19.2.1 v17) fun q26 =>
            some q26)) (
          obind (glazierref01_told q19.1 q19.2.1 v17) fun q27 =>
          some q27))) (
      obind (glazierref01_size x2) fun q28 =>
      obind (glazierref01_parts fl q4 q28) fun q29 =>
      obind (glazierref01_told q29.1 q29.2.1 false) fun q30 =>
      some q30))

/-- glazier/glazierref01.Floor -/
noncomputable def glazierref01_Floor (fl : Nat) (x0 : Int) (x1 : Int) : Option (Int × Int) :=
  obind (glazierref01_MulDiv fl x0 1 x1) fun q2 =>
  some q2

/-- glazier/glazierref01.Down -/
noncomputable def glazierref01_Down (fl : Nat) (x0 : Int) (x1 : Int) : Option (Int) :=
  obind (glazierref01_Floor fl x0 x1) fun q2 =>
  some q2.1

/-- glazier/glazierref11.wrap -/
noncomputable def glazierref11_wrap (x0 : Int) (x1 : Int) : Option (Int) :=
  bgd (F.nonzero x1) (
    bnd (F.rem x0 x1) fun v2 =>
    bnd (F.lt v2 0) fun v3 =>
    bite v3 (
      bnd (F.add .i64 v2 x1) fun v4 =>
      some v4) (
      some v2))

/-- glazier/glazierref11.Texel -/
noncomputable def glazierref11_Texel (x0 : Int × Int × List (Int × Int × Int × Int)) (x1 : Int) (x2 : Int) : Option (Int × Int × Int × Int) :=
  obind (glazierref11_Right x0) fun q3 =>
  bnd (F.not q3) fun v4 =>
  bite v4 (
    some (0, (0, (0, 0)))) (
    obind (glazierref11_wrap x2 x0.2.1) fun q5 =>
    bnd (F.mul .i64 q5 x0.1) fun v6 =>
    obind (glazierref11_wrap x1 x0.1) fun q7 =>
    bnd (F.add .i64 v6 q7) fun v8 =>
    obind (F.get x0.2.2 v8) fun q9 =>
    some q9)

/-- glazier/glazierref11.Nearest -/
noncomputable def glazierref11_Nearest (fl : Nat) (x0 : Int × Int × List (Int × Int × Int × Int)) (x1 : Int) (x2 : Int) : Option (Int × Int × Int × Int) :=
  obind (glazierref01_Down fl x1 16) fun q3 =>
  obind (glazierref01_Down fl x2 16) fun q4 =>
  obind (glazierref11_Texel x0 q3 q4) fun q5 =>
  some q5

noncomputable def glazierref13_bits_l1 (fl : Nat) : Nat → Bool → Int → Int → Int → Int → Option (Int × Unit)
  | 0, _, _, _, _, _ => none
  | n + 1, x0, x1, x2, x3, x4 =>
    bnd (F.lt x4 32) fun v5 =>
    bite v5 (
      bgd (F.nonneg x4) (
        bnd (F.shr .u64 x2 x4) fun v6 =>
        bnd (F.rem v6 2) fun v7 =>
        bnd (F.eq v7 1) fun v8 =>
        bgd (F.nonneg x4) (
          bnd (F.shr .u64 x3 x4) fun v9 =>
          bnd (F.rem v9 2) fun v10 =>
          bnd (F.eq v10 1) fun v11 =>
          bite x0 (
            bite v8 (
              bite v11 (
                bgd (F.nonneg x4) (
                  bnd (F.shl .i64 1 x4) fun v12 =>
                  bnd (F.add .i64 x1 v12) fun v13 =>
                  bnd (F.add .i64 x4 1) fun v14 =>
                  glazierref13_bits_l1 fl n x0 v13 x2 x3 v14)) (
                bnd (F.not x0) fun v15 =>
                bite v15 (
                  bite v8 (
                    bgd (F.nonneg x4) (
                      bnd (F.shl .i64 1 x4) fun v16 =>
                      bnd (F.add .i64 x1 v16) fun v17 =>
                      bnd (F.add .i64 x4 1) fun v18 =>
                      glazierref13_bits_l1 fl n x0 v17 x2 x3 v18)) (
                    bite v11 (
                      bgd (F.nonneg x4) (
                        bnd (F.shl .i64 1 x4) fun v19 =>
                        bnd (F.add .i64 x1 v19) fun v20 =>
                        bnd (F.add .i64 x4 1) fun v21 =>
                        glazierref13_bits_l1 fl n x0 v20 x2 x3 v21)) (
                      bnd (F.add .i64 x4 1) fun v22 =>
                      glazierref13_bits_l1 fl n x0 x1 x2 x3 v22))) (
                  bnd (F.add .i64 x4 1) fun v23 =>
                  glazierref13_bits_l1 fl n x0 x1 x2 x3 v23))) (
              bnd (F.not x0) fun v24 =>
              bite v24 (
                bite v8 (
                  bgd (F.nonneg x4) (
                    bnd (F.shl .i64 1 x4) fun v25 =>
                    bnd (F.add .i64 x1 v25) fun v26 =>
                    bnd (F.add .i64 x4 1) fun v27 =>
                    glazierref13_bits_l1 fl n x0 v26 x2 x3 v27)) (
                  bite v11 (
                    bgd (F.nonneg x4) (
                      bnd (F.shl .i64 1 x4) fun v28 =>
                      bnd (F.add .i64 x1 v28) fun v29 =>
                      bnd (F.add .i64 x4 1) fun v30 =>
                      glazierref13_bits_l1 fl n x0 v29 x2 x3 v30)) (
                    bnd (F.add .i64 x4 1) fun v31 =>
                    glazierref13_bits_l1 fl n x0 x1 x2 x3 v31))) (
                bnd (F.add .i64 x4 1) fun v32 =>
                glazierref13_bits_l1 fl n x0 x1 x2 x3 v32))) (
            bnd (F.not x0) fun v33 =>
            bite v33 (
              bite v8 (
                bgd (F.nonneg x4) (
                  bnd (F.shl .i64 1 x4) fun v34 =>
                  bnd (F.add .i64 x1 v34) fun v35 =>
                  bnd (F.add .i64 x4 1) fun v36 =>
                  glazierref13_bits_l1 fl n x0 v35 x2 x3 v36)) (
                bite v11 (
                  bgd (F.nonneg x4) (
                    bnd (F.shl .i64 1 x4) fun v37 =>
                    bnd (F.add .i64 x1 v37) fun v38 =>
                    bnd (F.add .i64 x4 1) fun v39 =>
                    glazierref13_bits_l1 fl n x0 v38 x2 x3 v39)) (
                  bnd (F.add .i64 x4 1) fun v40 =>
                  glazierref13_bits_l1 fl n x0 x1 x2 x3 v40))) (
              bnd (F.add .i64 x4 1) fun v41 =>
              glazierref13_bits_l1 fl n x0 x1 x2 x3 v41))))) (
      some (x1, ()))

/-- glazier/glazierref13.bits -/
noncomputable def glazierref13_bits (fl : Nat) (x0 : Int) (x1 : Int) (x2 : Bool) : Option (Int) :=
  bnd (F.conv .u64 x0) fun v3 =>
  bnd (F.rem v3 4294967296) fun v4 =>
  bnd (F.conv .u64 x1) fun v5 =>
  bnd (F.rem v5 4294967296) fun v6 =>
  obind (glazierref13_bits_l1 fl fl x2 0 v4 v6 0) fun q7 =>
  obind (glazierref13_Wrap q7.1) fun q8 =>
  some q8

/-- glazier/glazierref13.value -/
noncomputable def glazierref13_value (fl : Nat) (x0 : Int × Int × Int × Int × Int) (x1 : Int) (x2 : Int) : Option (Int) :=
  bnd (F.eq x0.1 0) fun v3 =>
  bite v3 (
    some x0.2.2.2.2) (
    bnd (F.eq x0.1 1) fun v4 =>
    bite v4 (
      some x1) (
      bnd (F.eq x0.1 2) fun v5 =>
      bite v5 (
        bnd (F.add .i64 x1 x2) fun v6 =>
        obind (glazierref13_Wrap v6) fun q7 =>
        some q7) (
        bnd (F.eq x0.1 3) fun v8 =>
        bite v8 (
          bnd (F.sub .i64 x1 x2) fun v9 =>
          obind (glazierref13_Wrap v9) fun q10 =>
          some q10) (
          bnd (F.eq x0.1 4) fun v11 =>
          bite v11 (
            bnd (F.mul .i64 x1 x2) fun v12 =>
            obind (glazierref01_Down fl v12 256) fun q13 =>
            obind (glazierref13_Wrap q13) fun q14 =>
            some q14) (
            bnd (F.eq x0.1 5) fun v15 =>
            bite v15 (
              bnd (F.min x1 x2) fun v16 =>
              some v16) (
              bnd (F.eq x0.1 6) fun v17 =>
              bite v17 (
                bnd (F.max x1 x2) fun v18 =>
                some v18) (
                bnd (F.eq x0.1 7) fun v19 =>
                bite v19 (
                  obind (glazierref13_bits fl x1 x2 true) fun q20 =>
                  some q20) (
                  bnd (F.eq x0.1 8) fun v21 =>
                  bite v21 (
                    obind (glazierref13_bits fl x1 x2 false) fun q22 =>
                    some q22) (
                    bnd (F.eq x0.1 9) fun v23 =>
                    bite v23 (
                      bgd (F.nonneg x0.2.2.2.2) (
                        bnd (F.shl .i64 1 x0.2.2.2.2) fun v24 =>
                        bnd (F.mul .i64 x1 v24) fun v25 =>
                        obind (glazierref13_Wrap v25) fun q26 =>
                        some q26)) (
                      bnd (F.eq x0.1 10) fun v27 =>
                      bite v27 (
                        bgd (F.nonneg x0.2.2.2.2) (
                          bnd (F.shl .i64 1 x0.2.2.2.2) fun v28 =>
                          obind (glazierref01_Down fl x1 v28) fun q29 =>
                          some q29)) (
                        bnd (F.eq x0.1 11) fun v30 =>
                        bite v30 (
                          bnd (F.lt x1 x2) fun v31 =>
                          bite v31 (
                            some 1) (
                            some 0)) (
                          some 0))))))))))))

/-- glazier/glazierref02.mix -/
noncomputable def glazierref02_mix (x0 : Int) (x1 : Int) (x2 : Int) : Option (Int) :=
  bnd (F.conv .i64 x0) fun v3 =>
  bnd (F.sub .i64 256 x2) fun v4 =>
  bnd (F.mul .i64 v3 v4) fun v5 =>
  bnd (F.conv .i64 x1) fun v6 =>
  bnd (F.mul .i64 v6 x2) fun v7 =>
  bnd (F.add .i64 v5 v7) fun v8 =>
  bnd (F.add .i64 v8 128) fun v9 =>
  bnd (F.quo .i64 v9 256) fun v10 =>
  bnd (F.conv .u8 v10) fun v11 =>
  some v11

/-- glazier/glazierref02.Mix -/
noncomputable def glazierref02_Mix (x0 : Int × Int × Int × Int) (x1 : Int × Int × Int × Int) (x2 : Int) : Option (Int × Int × Int × Int) :=
  bnd (F.lt x2 0) fun v3 =>
  bite v3 (
    obind (glazierref02_mix x0.1 x1.1 0) fun q4 =>
    obind (glazierref02_mix x0.2.1 x1.2.1 0) fun q5 =>
    obind (glazierref02_mix x0.2.2.1 x1.2.2.1 0) fun q6 =>
    obind (glazierref02_mix x0.2.2.2 x1.2.2.2 0) fun q7 =>
    some (q4, (q5, (q6, q7)))) (
    bnd (F.gt x2 256) fun v8 =>
    bite v8 (
      obind (glazierref02_mix x0.1 x1.1 256) fun q9 =>
      obind (glazierref02_mix x0.2.1 x1.2.1 256) fun q10 =>
      obind (glazierref02_mix x0.2.2.1 x1.2.2.1 256) fun q11 =>
      obind (glazierref02_mix x0.2.2.2 x1.2.2.2 256) fun q12 =>
      some (q9, (q10, (q11, q12)))) (
      obind (glazierref02_mix x0.1 x1.1 x2) fun q13 =>
      obind (glazierref02_mix x0.2.1 x1.2.1 x2) fun q14 =>
      obind (glazierref02_mix x0.2.2.1 x1.2.2.1 x2) fun q15 =>
      obind (glazierref02_mix x0.2.2.2 x1.2.2.2 x2) fun q16 =>
      some (q13, (q14, (q15, q16)))))

/-- glazier/glazierref11.Smooth -/
noncomputable def glazierref11_Smooth (fl : Nat) (x0 : Int × Int × List (Int × Int × Int × Int)) (x1 : Int) (x2 : Int) : Option (Int × Int × Int × Int) :=
  bnd (F.sub .i64 x1 8) fun v3 =>
  obind (glazierref01_Down fl v3 16) fun q4 =>
  bnd (F.sub .i64 x2 8) fun v5 =>
  obind (glazierref01_Down fl v5 16) fun q6 =>
  bnd (F.sub .i64 x1 8) fun v7 =>
  obind (glazierref11_wrap v7 16) fun q8 =>
  bnd (F.mul .i64 16 q8) fun v9 =>
  bnd (F.sub .i64 x2 8) fun v10 =>
  obind (glazierref11_wrap v10 16) fun q11 =>
  bnd (F.mul .i64 16 q11) fun v12 =>
  obind (glazierref11_Texel x0 q4 q6) fun q13 =>
  bnd (F.add .i64 q4 1) fun v14 =>
  obind (glazierref11_Texel x0 v14 q6) fun q15 =>
  obind (glazierref02_Mix q13 q15 v9) fun q16 =>
  bnd (F.add .i64 q6 1) fun v17 =>
  obind (glazierref11_Texel x0 q4 v17) fun q18 =>
  bnd (F.add .i64 q4 1) fun v19 =>
  bnd (F.add .i64 q6 1) fun v20 =>
  obind (glazierref11_Texel x0 v19 v20) fun q21 =>
  obind (glazierref02_Mix q18 q21 v9) fun q22 =>
  obind (glazierref02_Mix q16 q22 v12) fun q23 =>
  some q23

noncomputable def glazierref13_Run_l1 (fl : Nat) : Nat → (List (Int × Int × Int × Int × Int)) → Int → Int → Int → Int → (List (Int × Int × Int × Int)) → Int → Int → Int → Int → Int → Int → Int → Int → Option (Int × Int × Int × Int × Int × Int × Int × Int × Int × Unit)
  | 0, _, _, _, _, _, _, _, _, _, _, _, _, _, _ => none
  | n + 1, x0, x1, x2, x3, x4, x5, x6, x7, x8, x9, x10, x11, x12, x13 =>
    bnd (F.len x0) fun v14 =>
    bnd (F.lt x2 v14) fun v15 =>
    bite v15 (
      obind (F.get x0 x2) fun q16 =>
      bgd (F.within q16.2.2.1 8) (
        obind (F.get [x6, x7, x8, x9, x10, x11, x12, x13] q16.2.2.1) fun q17 =>
        bgd (F.within q16.2.2.2.1 8) (
          obind (F.get [x6, x7, x8, x9, x10, x11, x12, x13] q16.2.2.2.1) fun q18 =>
          bnd (F.add .i64 x1 1) fun v19 =>
          bnd (F.add .i64 x2 1) fun v20 =>
          bnd (F.eq q16.1 12) fun v21 =>
          bite v21 (
            bnd (F.ne q17 0) fun v22 =>
            bite v22 (
              obind (glazierref12_Target q16 x2) fun q23 =>
              glazierref13_Run_l1 fl n x0 v19 q23 x3 x4 x5 x6 x7 x8 x9 x10 x11 x12 x13) (
              glazierref13_Run_l1 fl n x0 v19 v20 x3 x4 x5 x6 x7 x8 x9 x10 x11 x12 x13)) (
            bnd (F.eq q16.1 13) fun v24 =>
            bite v24 (
              bite v24 (
                obind (glazierref11_Nearest fl (x3, (x4, x5)) q17 q18) fun q25 =>
                bnd (F.eq q16.1 14) fun v26 =>
                bite v26 (
                  obind (glazierref11_Smooth fl (x3, (x4, x5)) q17 q18) fun q27 =>
                  bnd (F.conv .i64 q27.1) fun v28 =>
                  bgd (F.within q16.2.1 8) (
                    bnd (F.add .u8 q16.2.1 1) fun v29 =>
                    bnd (F.conv .i64 q27.2.1) fun v30 =>
                    bgd (F.within v29 8) (
                      bnd (F.add .u8 q16.2.1 2) fun v31 =>
                      bnd (F.conv .i64 q27.2.2.1) fun v32 =>
                      bgd (F.within v31 8) (
                        bnd (F.add .u8 q16.2.1 3) fun v33 =>
                        bnd (F.conv .i64 q27.2.2.2) fun v34 =>
                        bgd (F.within v33 8) (
                          glazierref13_Run_l1 fl n x0 v19 v20 x3 x4 x5 (F.pick v33 0 v34 (F.pick v31 0 v32 (F.pick v29 0 v30 (F.pick q16.2.1 0 v28 x6)))) (F.pick v33 1 v34 (F.pick v31 1 v32 (F.pick v29 1 v30 (F.pick q16.2.1 1 v28 x7)))) (F.pick v33 2 v34 (F.pick v31 2 v32 (F.pick v29 2 v30 (F.pick q16.2.1 2 v28 x8)))) (F.pick v33 3 v34 (F.pick v31 3 v32 (F.pick v29 3 v30 (F.pick q16.2.1 3 v28 x9)))) (F.pick v33 4 v34 (F.pick v31 4 v32 (F.pick v29 4 v30 (F.pick q16.2.1 4 v28 x10)))) (F.pick v33 5 v34 (F.pick v31 5 v32 (F.pick v29 5 v30 (F.pick q16.2.1 5 v28 x11)))) (F.pick v33 6 v34 (F.pick v31 6 v32 (F.pick v29 6 v30 (F.pick q16.2.1 6 v28 x12)))) (F.pick v33 7 v34 (F.pick v31 7 v32 (F.pick v29 7 v30 (F.pick q16.2.1 7 v28 x13))))))))) (
                  bnd (F.conv .i64 q25.1) fun v35 =>
                  bgd (F.within q16.2.1 8) (
                    bnd (F.add .u8 q16.2.1 1) fun v36 =>
                    bnd (F.conv .i64 q25.2.1) fun v37 =>
                    bgd (F.within v36 8) (
                      bnd (F.add .u8 q16.2.1 2) fun v38 =>
                      bnd (F.conv .i64 q25.2.2.1) fun v39 =>
                      bgd (F.within v38 8) (
                        bnd (F.add .u8 q16.2.1 3) fun v40 =>
                        bnd (F.conv .i64 q25.2.2.2) fun v41 =>
                        bgd (F.within v40 8) (
                          glazierref13_Run_l1 fl n x0 v19 v20 x3 x4 x5 (F.pick v40 0 v41 (F.pick v38 0 v39 (F.pick v36 0 v37 (F.pick q16.2.1 0 v35 x6)))) (F.pick v40 1 v41 (F.pick v38 1 v39 (F.pick v36 1 v37 (F.pick q16.2.1 1 v35 x7)))) (F.pick v40 2 v41 (F.pick v38 2 v39 (F.pick v36 2 v37 (F.pick q16.2.1 2 v35 x8)))) (F.pick v40 3 v41 (F.pick v38 3 v39 (F.pick v36 3 v37 (F.pick q16.2.1 3 v35 x9)))) (F.pick v40 4 v41 (F.pick v38 4 v39 (F.pick v36 4 v37 (F.pick q16.2.1 4 v35 x10)))) (F.pick v40 5 v41 (F.pick v38 5 v39 (F.pick v36 5 v37 (F.pick q16.2.1 5 v35 x11)))) (F.pick v40 6 v41 (F.pick v38 6 v39 (F.pick v36 6 v37 (F.pick q16.2.1 6 v35 x12)))) (F.pick v40 7 v41 (F.pick v38 7 v39 (F.pick v36 7 v37 (F.pick q16.2.1 7 v35 x13)))))))))) (
                obind (glazierref13_value fl q16 q17 q18) fun q42 =>
                bgd (F.within q16.2.1 8) (
                  glazierref13_Run_l1 fl n x0 v19 v20 x3 x4 x5 (F.pick q16.2.1 0 q42 x6) (F.pick q16.2.1 1 q42 x7) (F.pick q16.2.1 2 q42 x8) (F.pick q16.2.1 3 q42 x9) (F.pick q16.2.1 4 q42 x10) (F.pick q16.2.1 5 q42 x11) (F.pick q16.2.1 6 q42 x12) (F.pick q16.2.1 7 q42 x13)))) (
              bnd (F.eq q16.1 14) fun v43 =>
              bite v43 (
                obind (glazierref11_Nearest fl (x3, (x4, x5)) q17 q18) fun q44 =>
                bnd (F.eq q16.1 14) fun v45 =>
                bite v45 (
                  obind (glazierref11_Smooth fl (x3, (x4, x5)) q17 q18) fun q46 =>
                  bnd (F.conv .i64 q46.1) fun v47 =>
                  bgd (F.within q16.2.1 8) (
                    bnd (F.add .u8 q16.2.1 1) fun v48 =>
                    bnd (F.conv .i64 q46.2.1) fun v49 =>
                    bgd (F.within v48 8) (
                      bnd (F.add .u8 q16.2.1 2) fun v50 =>
                      bnd (F.conv .i64 q46.2.2.1) fun v51 =>
                      bgd (F.within v50 8) (
                        bnd (F.add .u8 q16.2.1 3) fun v52 =>
                        bnd (F.conv .i64 q46.2.2.2) fun v53 =>
                        bgd (F.within v52 8) (
                          glazierref13_Run_l1 fl n x0 v19 v20 x3 x4 x5 (F.pick v52 0 v53 (F.pick v50 0 v51 (F.pick v48 0 v49 (F.pick q16.2.1 0 v47 x6)))) (F.pick v52 1 v53 (F.pick v50 1 v51 (F.pick v48 1 v49 (F.pick q16.2.1 1 v47 x7)))) (F.pick v52 2 v53 (F.pick v50 2 v51 (F.pick v48 2 v49 (F.pick q16.2.1 2 v47 x8)))) (F.pick v52 3 v53 (F.pick v50 3 v51 (F.pick v48 3 v49 (F.pick q16.2.1 3 v47 x9)))) (F.pick v52 4 v53 (F.pick v50 4 v51 (F.pick v48 4 v49 (F.pick q16.2.1 4 v47 x10)))) (F.pick v52 5 v53 (F.pick v50 5 v51 (F.pick v48 5 v49 (F.pick q16.2.1 5 v47 x11)))) (F.pick v52 6 v53 (F.pick v50 6 v51 (F.pick v48 6 v49 (F.pick q16.2.1 6 v47 x12)))) (F.pick v52 7 v53 (F.pick v50 7 v51 (F.pick v48 7 v49 (F.pick q16.2.1 7 v47 x13))))))))) (
                  bnd (F.conv .i64 q44.1) fun v54 =>
                  bgd (F.within q16.2.1 8) (
                    bnd (F.add .u8 q16.2.1 1) fun v55 =>
                    bnd (F.conv .i64 q44.2.1) fun v56 =>
                    bgd (F.within v55 8) (
                      bnd (F.add .u8 q16.2.1 2) fun v57 =>
                      bnd (F.conv .i64 q44.2.2.1) fun v58 =>
                      bgd (F.within v57 8) (
                        bnd (F.add .u8 q16.2.1 3) fun v59 =>
                        bnd (F.conv .i64 q44.2.2.2) fun v60 =>
                        bgd (F.within v59 8) (
                          glazierref13_Run_l1 fl n x0 v19 v20 x3 x4 x5 (F.pick v59 0 v60 (F.pick v57 0 v58 (F.pick v55 0 v56 (F.pick q16.2.1 0 v54 x6)))) (F.pick v59 1 v60 (F.pick v57 1 v58 (F.pick v55 1 v56 (F.pick q16.2.1 1 v54 x7)))) (F.pick v59 2 v60 (F.pick v57 2 v58 (F.pick v55 2 v56 (F.pick q16.2.1 2 v54 x8)))) (F.pick v59 3 v60 (F.pick v57 3 v58 (F.pick v55 3 v56 (F.pick q16.2.1 3 v54 x9)))) (F.pick v59 4 v60 (F.pick v57 4 v58 (F.pick v55 4 v56 (F.pick q16.2.1 4 v54 x10)))) (F.pick v59 5 v60 (F.pick v57 5 v58 (F.pick v55 5 v56 (F.pick q16.2.1 5 v54 x11)))) (F.pick v59 6 v60 (F.pick v57 6 v58 (F.pick v55 6 v56 (F.pick q16.2.1 6 v54 x12)))) (F.pick v59 7 v60 (F.pick v57 7 v58 (F.pick v55 7 v56 (F.pick q16.2.1 7 v54 x13)))))))))) (
                obind (glazierref13_value fl q16 q17 q18) fun q61 =>
                bgd (F.within q16.2.1 8) (
                  glazierref13_Run_l1 fl n x0 v19 v20 x3 x4 x5 (F.pick q16.2.1 0 q61 x6) (F.pick q16.2.1 1 q61 x7) (F.pick q16.2.1 2 q61 x8) (F.pick q16.2.1 3 q61 x9) (F.pick q16.2.1 4 q61 x10) (F.pick q16.2.1 5 q61 x11) (F.pick q16.2.1 6 q61 x12) (F.pick q16.2.1 7 q61 x13)))))))) (
      some (x1, (x6, (x7, (x8, (x9, (x10, (x11, (x12, (x13, ()))))))))))

/-- glazier/glazierref13.Run -/
noncomputable def glazierref13_Run (fl : Nat) (x0 : List (Int × Int × Int × Int × Int)) (x1 : Int × Int × List (Int × Int × Int × Int)) (x2 : Int × Int × Int × Int × Int × Int × Int × Int) : Option ((Int × Int × Int × Int × Int × Int × Int × Int) × Int × Int) :=
  obind (glazierref12_Check fl x0) fun q3 =>
  bnd (F.ne q3 0) fun v4 =>
  bite v4 (
    some ((0, (0, (0, (0, (0, (0, (0, 0))))))), (0, 23))) (
    obind (glazierref12_Samples fl x0) fun q5 =>
    obind (glazierref11_Right x1) fun q6 =>
    bite q5 (
      bnd (F.not q6) fun v7 =>
      bite v7 (
        some ((0, (0, (0, (0, (0, (0, (0, 0))))))), (0, 22))) (
        obind (glazierref13_Wrap x2.1) fun q8 =>
        obind (glazierref13_Wrap x2.2.1) fun q9 =>
        obind (glazierref13_Wrap x2.2.2.1) fun q10 =>
        obind (glazierref13_Wrap x2.2.2.2.1) fun q11 =>
        obind (glazierref13_Wrap x2.2.2.2.2.1) fun q12 =>
        obind (glazierref13_Wrap x2.2.2.2.2.2.1) fun q13 =>
        obind (glazierref13_Wrap x2.2.2.2.2.2.2.1) fun q14 =>
        obind (glazierref13_Wrap x2.2.2.2.2.2.2.2) fun q15 =>
        obind (glazierref13_Run_l1 fl fl x0 0 0 x1.1 x1.2.1 x1.2.2 q8 q9 q10 q11 q12 q13 q14 q15) fun q16 =>
        some ((q16.2.1, (q16.2.2.1, (q16.2.2.2.1, (q16.2.2.2.2.1, (q16.2.2.2.2.2.1, (q16.2.2.2.2.2.2.1, (q16.2.2.2.2.2.2.2.1, q16.2.2.2.2.2.2.2.2.1))))))), (q16.1, 0)))) (
      obind (glazierref13_Wrap x2.1) fun q17 =>
      obind (glazierref13_Wrap x2.2.1) fun q18 =>
      obind (glazierref13_Wrap x2.2.2.1) fun q19 =>
      obind (glazierref13_Wrap x2.2.2.2.1) fun q20 =>
      obind (glazierref13_Wrap x2.2.2.2.2.1) fun q21 =>
      obind (glazierref13_Wrap x2.2.2.2.2.2.1) fun q22 =>
      obind (glazierref13_Wrap x2.2.2.2.2.2.2.1) fun q23 =>
      obind (glazierref13_Wrap x2.2.2.2.2.2.2.2) fun q24 =>
      obind (glazierref13_Run_l1 fl fl x0 0 0 x1.1 x1.2.1 x1.2.2 q17 q18 q19 q20 q21 q22 q23 q24) fun q25 =>
      some ((q25.2.1, (q25.2.2.1, (q25.2.2.2.1, (q25.2.2.2.2.1, (q25.2.2.2.2.2.1, (q25.2.2.2.2.2.2.1, (q25.2.2.2.2.2.2.2.1, q25.2.2.2.2.2.2.2.2.1))))))), (q25.1, 0))))

/-- glazier/glazierref12.mod -/
noncomputable def glazierref12_mod (x0 : Int) (x1 : Int) : Option (Int) :=
  bgd (F.nonzero x1) (
    bnd (F.rem x0 x1) fun v2 =>
    bnd (F.lt v2 0) fun v3 =>
    bite v3 (
      bnd (F.add .i64 v2 x1) fun v4 =>
      some v4) (
      some v2))

/-- glazier/glazierref12.fit -/
noncomputable def glazierref12_fit (x0 : Int × Int × Int × Int × Int) (x1 : Int) (x2 : Int) (x3 : Bool) : Option (Int × Int × Int × Int × Int) :=
  bnd (F.rem x0.1 15) fun v4 =>
  bite x3 (
    bnd (F.ge v4 13) fun v5 =>
    bite v5 (
      bnd (F.rem x0.2.1 8) fun v6 =>
      bnd (F.rem x0.2.2.1 8) fun v7 =>
      bnd (F.rem x0.2.2.2.1 8) fun v8 =>
      some (2, (v6, (v7, (v8, 0))))) (
      bnd (F.rem x0.2.1 8) fun v9 =>
      bnd (F.rem x0.2.2.1 8) fun v10 =>
      bnd (F.rem x0.2.2.2.1 8) fun v11 =>
      bnd (F.eq v4 0) fun v12 =>
      bite v12 (
        obind (glazierref12_mod x0.2.2.2.2 4294967296) fun q13 =>
        bnd (F.sub .i64 q13 2147483648) fun v14 =>
        some (v4, (v9, (0, (0, v14))))) (
        bnd (F.eq v4 1) fun v15 =>
        bite v15 (
          some (v4, (v9, (v10, (0, 0))))) (
          bnd (F.eq v4 9) fun v16 =>
          bite v16 (
            bite v16 (
              obind (glazierref12_mod x0.2.2.2.2 32) fun q17 =>
              some (v4, (v9, (v10, (0, q17))))) (
              bnd (F.eq v4 12) fun v18 =>
              bite v18 (
                bnd (F.sub .i64 x2 x1) fun v19 =>
                obind (glazierref12_mod x0.2.2.2.2 v19) fun q20 =>
                some (v4, (0, (v10, (0, q20))))) (
                bnd (F.eq v4 13) fun v21 =>
                bite v21 (
                  bite v21 (
                    bnd (F.rem x0.2.1 5) fun v22 =>
                    some (v4, (v22, (v10, (v11, 0))))) (
                    some (v4, (v9, (v10, (v11, 0)))))) (
                  bnd (F.eq v4 14) fun v23 =>
                  bite v23 (
                    bnd (F.rem x0.2.1 5) fun v24 =>
                    some (v4, (v24, (v10, (v11, 0))))) (
                    some (v4, (v9, (v10, (v11, 0))))))))) (
            bnd (F.eq v4 10) fun v25 =>
            bite v25 (
              obind (glazierref12_mod x0.2.2.2.2 32) fun q26 =>
              some (v4, (v9, (v10, (0, q26))))) (
              bnd (F.eq v4 12) fun v27 =>
              bite v27 (
                bnd (F.sub .i64 x2 x1) fun v28 =>
                obind (glazierref12_mod x0.2.2.2.2 v28) fun q29 =>
                some (v4, (0, (v10, (0, q29))))) (
                bnd (F.eq v4 13) fun v30 =>
                bite v30 (
                  bite v30 (
                    bnd (F.rem x0.2.1 5) fun v31 =>
                    some (v4, (v31, (v10, (v11, 0))))) (
                    some (v4, (v9, (v10, (v11, 0)))))) (
                  bnd (F.eq v4 14) fun v32 =>
                  bite v32 (
                    bnd (F.rem x0.2.1 5) fun v33 =>
                    some (v4, (v33, (v10, (v11, 0))))) (
                    some (v4, (v9, (v10, (v11, 0))))))))))))) (
    bnd (F.rem x0.2.1 8) fun v34 =>
    bnd (F.rem x0.2.2.1 8) fun v35 =>
    bnd (F.rem x0.2.2.2.1 8) fun v36 =>
    bnd (F.eq v4 0) fun v37 =>
    bite v37 (
      obind (glazierref12_mod x0.2.2.2.2 4294967296) fun q38 =>
      bnd (F.sub .i64 q38 2147483648) fun v39 =>
      some (v4, (v34, (0, (0, v39))))) (
      bnd (F.eq v4 1) fun v40 =>
      bite v40 (
        some (v4, (v34, (v35, (0, 0))))) (
        bnd (F.eq v4 9) fun v41 =>
        bite v41 (
          bite v41 (
            obind (glazierref12_mod x0.2.2.2.2 32) fun q42 =>
            some (v4, (v34, (v35, (0, q42))))) (
            bnd (F.eq v4 12) fun v43 =>
            bite v43 (
              bnd (F.sub .i64 x2 x1) fun v44 =>
              obind (glazierref12_mod x0.2.2.2.2 v44) fun q45 =>
              some (v4, (0, (v35, (0, q45))))) (
              bnd (F.eq v4 13) fun v46 =>
              bite v46 (
                bite v46 (
                  bnd (F.rem x0.2.1 5) fun v47 =>
                  some (v4, (v47, (v35, (v36, 0))))) (
                  some (v4, (v34, (v35, (v36, 0)))))) (
                bnd (F.eq v4 14) fun v48 =>
                bite v48 (
                  bnd (F.rem x0.2.1 5) fun v49 =>
                  some (v4, (v49, (v35, (v36, 0))))) (
                  some (v4, (v34, (v35, (v36, 0))))))))) (
          bnd (F.eq v4 10) fun v50 =>
          bite v50 (
            obind (glazierref12_mod x0.2.2.2.2 32) fun q51 =>
            some (v4, (v34, (v35, (0, q51))))) (
            bnd (F.eq v4 12) fun v52 =>
            bite v52 (
              bnd (F.sub .i64 x2 x1) fun v53 =>
              obind (glazierref12_mod x0.2.2.2.2 v53) fun q54 =>
              some (v4, (0, (v35, (0, q54))))) (
              bnd (F.eq v4 13) fun v55 =>
              bite v55 (
                bite v55 (
                  bnd (F.rem x0.2.1 5) fun v56 =>
                  some (v4, (v56, (v35, (v36, 0))))) (
                  some (v4, (v34, (v35, (v36, 0)))))) (
                bnd (F.eq v4 14) fun v57 =>
                bite v57 (
                  bnd (F.rem x0.2.1 5) fun v58 =>
                  some (v4, (v58, (v35, (v36, 0))))) (
                  some (v4, (v34, (v35, (v36, 0))))))))))))

noncomputable def glazierref12_Fit_l1 (fl : Nat) : Nat → (List (Int × Int × Int × Int × Int)) → Bool → Int → (List (Int × Int × Int × Int × Int)) → Int → Option ((List (Int × Int × Int × Int × Int)) × Unit)
  | 0, _, _, _, _, _ => none
  | n + 1, x0, x1, x2, x3, x4 =>
    bnd (F.lt x4 x2) fun v5 =>
    bite v5 (
      obind (F.get x0 x4) fun q6 =>
      obind (glazierref12_fit q6 x4 x2 x1) fun q7 =>
      bgd (F.appOk 16 x3 [q7]) (
        bnd (F.app x3 [q7]) fun v8 =>
        bnd (F.add .i64 x4 1) fun v9 =>
        glazierref12_Fit_l1 fl n x0 x1 x2 v8 v9)) (
      some (x3, ()))

/-- glazier/glazierref12.Fit -/
noncomputable def glazierref12_Fit (fl : Nat) (x0 : List (Int × Int × Int × Int × Int)) (x1 : Bool) : Option (List (Int × Int × Int × Int × Int)) :=
  bnd (F.len x0) fun v2 =>
  bnd (F.eq v2 0) fun v3 =>
  bite v3 (
    some [(1, (0, (0, (0, 0))))]) (
    bnd (F.len x0) fun v4 =>
    bnd (F.min v4 32) fun v5 =>
    obind (glazierref12_Fit_l1 fl fl x0 x1 v5 [] 0) fun q6 =>
    some q6.1)

noncomputable def glazierref11_Fit_l1 (fl : Nat) : Nat → Int → Int → Int → (List (Int × Int × Int × Int)) → Int → Int → (List (Int × Int × Int × Int)) → Option (Int × Int × (List (Int × Int × Int × Int)) × Unit)
  | 0, _, _, _, _, _, _, _ => none
  | n + 1, x0, x1, x2, x3, x4, x5, x6 =>
    bnd (F.mul .i64 x4 x5) fun v7 =>
    bnd (F.lt x0 v7) fun v8 =>
    bite v8 (
      bnd (F.mul .i64 x0 16) fun v9 =>
      bnd (F.conv .u8 v9) fun v10 =>
      bnd (F.conv .u8 x0) fun v11 =>
      bnd (F.len x3) fun v12 =>
      bnd (F.lt x0 v12) fun v13 =>
      bite v13 (
        obind (F.get x3 x0) fun q14 =>
        bgd (F.appOk 4 x6 [q14]) (
          bnd (F.app x6 [q14]) fun v15 =>
          bnd (F.add .i64 x0 1) fun v16 =>
          glazierref11_Fit_l1 fl n v16 x1 x2 x3 x4 x5 v15)) (
        bgd (F.appOk 4 x6 [(v10, (v11, (7, 255)))]) (
          bnd (F.app x6 [(v10, (v11, (7, 255)))]) fun v17 =>
          bnd (F.add .i64 x0 1) fun v18 =>
          glazierref11_Fit_l1 fl n v18 x1 x2 x3 x4 x5 v17))) (
      some (x4, (x5, (x6, ()))))

/-- glazier/glazierref11.Fit -/
noncomputable def glazierref11_Fit (fl : Nat) (x0 : Int × Int × List (Int × Int × Int × Int)) : Option (Int × Int × List (Int × Int × Int × Int)) :=
  obind (glazierref11_wrap x0.1 16) fun q1 =>
  bnd (F.add .i64 1 q1) fun v2 =>
  obind (glazierref11_wrap x0.2.1 16) fun q3 =>
  bnd (F.add .i64 1 q3) fun v4 =>
  obind (glazierref11_Fit_l1 fl fl 0 x0.1 x0.2.1 x0.2.2 v2 v4 []) fun q5 =>
  some (q5.1, (q5.2.1, q5.2.2.1))

/-- glazier/glazierlaw13.VmAll -/
noncomputable def glazierlaw13_VmAll (fl : Nat) (x0 : List (Int × Int × Int × Int × Int)) (x1 : Int × Int × List (Int × Int × Int × Int)) (x2 : Int × Int × Int × Int × Int × Int × Int × Int) : Option (Bool) :=
  obind (glazierlaw13_shown fl) fun q3 =>
  obind (glazierlaw13_few x0) fun q4 =>
  bnd (F.len x1.2.2) fun v5 =>
  bnd (F.gt v5 300) fun v6 =>
  bite v6 (
    bgd (F.cutOk x1.2.2 0 300) (
      bnd (F.cut x1.2.2 0 300) fun v7 =>
      obind (vm_Run fl q4 (x1.1, (x1.2.1, v7)) x2) fun q8 =>
      obind (glazierref13_Run fl q4 (x1.1, (x1.2.1, v7)) x2) fun q9 =>
      obind (glazierref12_Fit fl q4 false) fun q10 =>
      obind (glazierref11_Fit fl (x1.1, (x1.2.1, v7))) fun q11 =>
      obind (vm_Run fl q10 q11 x2) fun q12 =>
      obind (glazierref13_Run fl q10 q11 x2) fun q13 =>
      bite q3 (
        bnd (F.both (F.eq q8.1.1 q9.1.1) (F.both (F.eq q8.1.2.1 q9.1.2.1) (F.both (F.eq q8.1.2.2.1 q9.1.2.2.1) (F.both (F.eq q8.1.2.2.2.1 q9.1.2.2.2.1) (F.both (F.eq q8.1.2.2.2.2.1 q9.1.2.2.2.2.1) (F.both (F.eq q8.1.2.2.2.2.2.1 q9.1.2.2.2.2.2.1) (F.both (F.eq q8.1.2.2.2.2.2.2.1 q9.1.2.2.2.2.2.2.1) (F.eq q8.1.2.2.2.2.2.2.2 q9.1.2.2.2.2.2.2.2)))))))) fun v14 =>
        bite v14 (
          bnd (F.eq q8.2.1 q9.2.1) fun v15 =>
          bite v15 (
            bnd (F.eq q8.2.2 q9.2.2) fun v16 =>
            bite v16 (
              bnd (F.both (F.eq q12.1.1 q13.1.1) (F.both (F.eq q12.1.2.1 q13.1.2.1) (F.both (F.eq q12.1.2.2.1 q13.1.2.2.1) (F.both (F.eq q12.1.2.2.2.1 q13.1.2.2.2.1) (F.both (F.eq q12.1.2.2.2.2.1 q13.1.2.2.2.2.1) (F.both (F.eq q12.1.2.2.2.2.2.1 q13.1.2.2.2.2.2.1) (F.both (F.eq q12.1.2.2.2.2.2.2.1 q13.1.2.2.2.2.2.2.1) (F.eq q12.1.2.2.2.2.2.2.2 q13.1.2.2.2.2.2.2.2)))))))) fun v17 =>
              bite v17 (
                bnd (F.eq q12.2.1 q13.2.1) fun v18 =>
                bite v18 (
                  bnd (F.eq q12.2.2 q13.2.2) fun v19 =>
                  bite v19 (
                    bnd (F.eq q12.2.2 0) fun v20 =>
                    some v20) (
                    some false)) (
                  some false)) (
                some false)) (
              some false)) (
            some false)) (
          some false)) (
        some false))) (
    obind (vm_Run fl q4 x1 x2) fun q21 =>
    obind (glazierref13_Run fl q4 x1 x2) fun q22 =>
    obind (glazierref12_Fit fl q4 false) fun q23 =>
    obind (glazierref11_Fit fl x1) fun q24 =>
    obind (vm_Run fl q23 q24 x2) fun q25 =>
    obind (glazierref13_Run fl q23 q24 x2) fun q26 =>
    bite q3 (
      bnd (F.both (F.eq q21.1.1 q22.1.1) (F.both (F.eq q21.1.2.1 q22.1.2.1) (F.both (F.eq q21.1.2.2.1 q22.1.2.2.1) (F.both (F.eq q21.1.2.2.2.1 q22.1.2.2.2.1) (F.both (F.eq q21.1.2.2.2.2.1 q22.1.2.2.2.2.1) (F.both (F.eq q21.1.2.2.2.2.2.1 q22.1.2.2.2.2.2.1) (F.both (F.eq q21.1.2.2.2.2.2.2.1 q22.1.2.2.2.2.2.2.1) (F.eq q21.1.2.2.2.2.2.2.2 q22.1.2.2.2.2.2.2.2)))))))) fun v27 =>
      bite v27 (
        bnd (F.eq q21.2.1 q22.2.1) fun v28 =>
        bite v28 (
          bnd (F.eq q21.2.2 q22.2.2) fun v29 =>
          bite v29 (
            bnd (F.both (F.eq q25.1.1 q26.1.1) (F.both (F.eq q25.1.2.1 q26.1.2.1) (F.both (F.eq q25.1.2.2.1 q26.1.2.2.1) (F.both (F.eq q25.1.2.2.2.1 q26.1.2.2.2.1) (F.both (F.eq q25.1.2.2.2.2.1 q26.1.2.2.2.2.1) (F.both (F.eq q25.1.2.2.2.2.2.1 q26.1.2.2.2.2.2.1) (F.both (F.eq q25.1.2.2.2.2.2.2.1 q26.1.2.2.2.2.2.2.1) (F.eq q25.1.2.2.2.2.2.2.2 q26.1.2.2.2.2.2.2.2)))))))) fun v30 =>
            bite v30 (
              bnd (F.eq q25.2.1 q26.2.1) fun v31 =>
              bite v31 (
                bnd (F.eq q25.2.2 q26.2.2) fun v32 =>
                bite v32 (
                  bnd (F.eq q25.2.2 0) fun v33 =>
                  some v33) (
                  some false)) (
                some false)) (
              some false)) (
            some false)) (
          some false)) (
        some false)) (
      some false))

noncomputable def glazierlaw13_straight_l1 (fl : Nat) : Nat → (List (Int × Int × Int × Int × Int)) → Int → Option ((List (Int × Int × Int × Int × Int)) × Unit)
  | 0, _, _ => none
  | n + 1, x0, x1 =>
    bnd (F.len x0) fun v2 =>
    bnd (F.lt x1 v2) fun v3 =>
    bite v3 (
      obind (F.get x0 x1) fun q4 =>
      bnd (F.eq q4.1 12) fun v5 =>
      bite v5 (
        obind (F.get x0 x1) fun q6 =>
        obind (F.get x0 x1) fun q7 =>
        bgd (F.has x0 x1) (
          obind (F.get x0 x1) fun q8 =>
          bnd (F.put x0 x1 (1, (q6.2.2.1, (q7.2.2.1, (0, 0))))) fun v9 =>
          bnd (F.add .i64 x1 1) fun v10 =>
          glazierlaw13_straight_l1 fl n v9 v10)) (
        bnd (F.add .i64 x1 1) fun v11 =>
        glazierlaw13_straight_l1 fl n x0 v11)) (
      some (x0, ()))

/-- glazier/glazierlaw13.straight -/
noncomputable def glazierlaw13_straight (fl : Nat) (x0 : List (Int × Int × Int × Int × Int)) : Option (List (Int × Int × Int × Int × Int)) :=
  obind (glazierref12_Fit fl x0 true) fun q1 =>
  obind (glazierlaw13_straight_l1 fl fl q1 0) fun q2 =>
  some q2.1

noncomputable def glazierlaw13_VmStays_l1 (fl : Nat) : Nat → Bool → (List (Int × Int × Int × Int × Int)) → Int → Int → Int → Int → Int → Int → Int → Int → Int → Int → Int → Int → Int → Int → Int → Int → Int → Bool → Bool → Bool → Bool → Bool → Bool → Bool → Bool → Option (Bool × (List (Int × Int × Int × Int × Int)) × Int × Int × Int × Int × Int × Int × Int × Int × Int × Int × Int × Int × Int × Int × Int × Int × Bool × Bool × Bool × Bool × Bool × Bool × Bool × Bool × Unit)
  | 0, _, _, _, _, _, _, _, _, _, _, _, _, _, _, _, _, _, _, _, _, _, _, _, _, _, _, _ => none
  | n + 1, x0, x1, x2, x3, x4, x5, x6, x7, x8, x9, x10, x11, x12, x13, x14, x15, x16, x17, x18, x19, x20, x21, x22, x23, x24, x25, x26 =>
    bnd (F.len x1) fun v27 =>
    bnd (F.lt x2 v27) fun v28 =>
    bite v28 (
      obind (F.get x1 x2) fun q29 =>
      bgd (F.within q29.2.1 8) (
        bnd (F.add .i64 x2 1) fun v30 =>
        glazierlaw13_VmStays_l1 fl n x0 x1 v30 x3 x4 x5 x6 x7 x8 x9 x10 x11 x12 x13 x14 x15 x16 x17 x18 (F.pick q29.2.1 0 true x19) (F.pick q29.2.1 1 true x20) (F.pick q29.2.1 2 true x21) (F.pick q29.2.1 3 true x22) (F.pick q29.2.1 4 true x23) (F.pick q29.2.1 5 true x24) (F.pick q29.2.1 6 true x25) (F.pick q29.2.1 7 true x26))) (
      some (x0, (x1, (x3, (x4, (x5, (x6, (x7, (x8, (x9, (x10, (x11, (x12, (x13, (x14, (x15, (x16, (x17, (x18, (x19, (x20, (x21, (x22, (x23, (x24, (x25, (x26, ())))))))))))))))))))))))))))

noncomputable def glazierlaw13_VmStays_j2 (fl : Nat) (x0 : Bool) (x1 : List (Int × Int × Int × Int × Int)) (x2 : Int) (x3 : Int) (x4 : Int) (x5 : Int) (x6 : Int) (x7 : Int) (x8 : Int) (x9 : Int) (x10 : Int) (x11 : Int) (x12 : Int) (x13 : Int) (x14 : Int) (x15 : Int) (x16 : Int) (x17 : Int) (x18 : Bool) (x19 : Bool) (x20 : Bool) (x21 : Bool) (x22 : Bool) (x23 : Bool) (x24 : Bool) (x25 : Bool) : Option (((Unit) ⊕ (Bool × (List (Int × Int × Int × Int × Int)) × Int × Int × Int × Int × Int × Int × Int × Int × Int × Int × Int × Int × Int × Int × Int × Int × Bool × Bool × Bool × Bool × Bool × Bool × Bool × Bool × Int × Unit))) :=
    bnd (F.not x18) fun v26 =>
    bite v26 (
      bnd (F.conv .i32 x2) fun v27 =>
      bnd (F.conv .i64 v27) fun v28 =>
      bnd (F.ne x10 v28) fun v29 =>
      bite v29 (
        some (.inl ())) (
        bnd (F.lt x10 (-2147483648)) fun v30 =>
        bite v30 (
          some (.inl ())) (
          bnd (F.ge x10 2147483648) fun v31 =>
          bite v31 (
            some (.inl ())) (
            bnd (F.add .i64 x2 4294967296) fun v32 =>
            some (.inr (x0, (x1, (x2, (x3, (x4, (x5, (x6, (x7, (x8, (x9, (x10, (x11, (x12, (x13, (x14, (x15, (x16, (x17, (x18, (x19, (x20, (x21, (x22, (x23, (x24, (x25, (v32, ())))))))))))))))))))))))))))))))) (
      bnd (F.lt x10 (-2147483648)) fun v33 =>
      bite v33 (
        some (.inl ())) (
        bnd (F.ge x10 2147483648) fun v34 =>
        bite v34 (
          some (.inl ())) (
          bnd (F.add .i64 x2 4294967296) fun v35 =>
          some (.inr (x0, (x1, (x2, (x3, (x4, (x5, (x6, (x7, (x8, (x9, (x10, (x11, (x12, (x13, (x14, (x15, (x16, (x17, (x18, (x19, (x20, (x21, (x22, (x23, (x24, (x25, (v35, ())))))))))))))))))))))))))))))))

noncomputable def glazierlaw13_VmStays_j3 (fl : Nat) (x0 : Bool) (x1 : List (Int × Int × Int × Int × Int)) (x2 : Int) (x3 : Int) (x4 : Int) (x5 : Int) (x6 : Int) (x7 : Int) (x8 : Int) (x9 : Int) (x10 : Int) (x11 : Int) (x12 : Int) (x13 : Int) (x14 : Int) (x15 : Int) (x16 : Int) (x17 : Int) (x18 : Bool) (x19 : Bool) (x20 : Bool) (x21 : Bool) (x22 : Bool) (x23 : Bool) (x24 : Bool) (x25 : Bool) (x26 : Int) : Option (((Unit) ⊕ (Bool × (List (Int × Int × Int × Int × Int)) × Int × Int × Int × Int × Int × Int × Int × Int × Int × Int × Int × Int × Int × Int × Int × Int × Bool × Bool × Bool × Bool × Bool × Bool × Bool × Bool × Int × Int × Unit))) :=
    bnd (F.not x19) fun v27 =>
    bite v27 (
      bnd (F.conv .i32 x3) fun v28 =>
      bnd (F.conv .i64 v28) fun v29 =>
      bnd (F.ne x11 v29) fun v30 =>
      bite v30 (
        some (.inl ())) (
        bnd (F.lt x11 (-2147483648)) fun v31 =>
        bite v31 (
          some (.inl ())) (
          bnd (F.ge x11 2147483648) fun v32 =>
          bite v32 (
            some (.inl ())) (
            bnd (F.add .i64 x3 4294967296) fun v33 =>
            some (.inr (x0, (x1, (x2, (x3, (x4, (x5, (x6, (x7, (x8, (x9, (x10, (x11, (x12, (x13, (x14, (x15, (x16, (x17, (x18, (x19, (x20, (x21, (x22, (x23, (x24, (x25, (x26, (v33, ()))))))))))))))))))))))))))))))))) (
      bnd (F.lt x11 (-2147483648)) fun v34 =>
      bite v34 (
        some (.inl ())) (
        bnd (F.ge x11 2147483648) fun v35 =>
        bite v35 (
          some (.inl ())) (
          bnd (F.add .i64 x3 4294967296) fun v36 =>
          some (.inr (x0, (x1, (x2, (x3, (x4, (x5, (x6, (x7, (x8, (x9, (x10, (x11, (x12, (x13, (x14, (x15, (x16, (x17, (x18, (x19, (x20, (x21, (x22, (x23, (x24, (x25, (x26, (v36, ()))))))))))))))))))))))))))))))))

noncomputable def glazierlaw13_VmStays_j4 (fl : Nat) (x0 : Bool) (x1 : List (Int × Int × Int × Int × Int)) (x2 : Int) (x3 : Int) (x4 : Int) (x5 : Int) (x6 : Int) (x7 : Int) (x8 : Int) (x9 : Int) (x10 : Int) (x11 : Int) (x12 : Int) (x13 : Int) (x14 : Int) (x15 : Int) (x16 : Int) (x17 : Int) (x18 : Bool) (x19 : Bool) (x20 : Bool) (x21 : Bool) (x22 : Bool) (x23 : Bool) (x24 : Bool) (x25 : Bool) (x26 : Int) (x27 : Int) : Option (((Unit) ⊕ (Bool × (List (Int × Int × Int × Int × Int)) × Int × Int × Int × Int × Int × Int × Int × Int × Int × Int × Int × Int × Int × Int × Int × Int × Bool × Bool × Bool × Bool × Bool × Bool × Bool × Bool × Int × Int × Int × Unit))) :=
    bnd (F.not x20) fun v28 =>
    bite v28 (
      bnd (F.conv .i32 x4) fun v29 =>
      bnd (F.conv .i64 v29) fun v30 =>
      bnd (F.ne x12 v30) fun v31 =>
      bite v31 (
        some (.inl ())) (
        bnd (F.lt x12 (-2147483648)) fun v32 =>
        bite v32 (
          some (.inl ())) (
          bnd (F.ge x12 2147483648) fun v33 =>
          bite v33 (
            some (.inl ())) (
            bnd (F.add .i64 x4 4294967296) fun v34 =>
            some (.inr (x0, (x1, (x2, (x3, (x4, (x5, (x6, (x7, (x8, (x9, (x10, (x11, (x12, (x13, (x14, (x15, (x16, (x17, (x18, (x19, (x20, (x21, (x22, (x23, (x24, (x25, (x26, (x27, (v34, ())))))))))))))))))))))))))))))))))) (
      bnd (F.lt x12 (-2147483648)) fun v35 =>
      bite v35 (
        some (.inl ())) (
        bnd (F.ge x12 2147483648) fun v36 =>
        bite v36 (
          some (.inl ())) (
          bnd (F.add .i64 x4 4294967296) fun v37 =>
          some (.inr (x0, (x1, (x2, (x3, (x4, (x5, (x6, (x7, (x8, (x9, (x10, (x11, (x12, (x13, (x14, (x15, (x16, (x17, (x18, (x19, (x20, (x21, (x22, (x23, (x24, (x25, (x26, (x27, (v37, ())))))))))))))))))))))))))))))))))

noncomputable def glazierlaw13_VmStays_j5 (fl : Nat) (x0 : Bool) (x1 : List (Int × Int × Int × Int × Int)) (x2 : Int) (x3 : Int) (x4 : Int) (x5 : Int) (x6 : Int) (x7 : Int) (x8 : Int) (x9 : Int) (x10 : Int) (x11 : Int) (x12 : Int) (x13 : Int) (x14 : Int) (x15 : Int) (x16 : Int) (x17 : Int) (x18 : Bool) (x19 : Bool) (x20 : Bool) (x21 : Bool) (x22 : Bool) (x23 : Bool) (x24 : Bool) (x25 : Bool) (x26 : Int) (x27 : Int) (x28 : Int) : Option (((Unit) ⊕ (Bool × (List (Int × Int × Int × Int × Int)) × Int × Int × Int × Int × Int × Int × Int × Int × Int × Int × Int × Int × Int × Int × Int × Int × Bool × Bool × Bool × Bool × Bool × Bool × Bool × Bool × Int × Int × Int × Int × Unit))) :=
    bnd (F.not x21) fun v29 =>
    bite v29 (
      bnd (F.conv .i32 x5) fun v30 =>
      bnd (F.conv .i64 v30) fun v31 =>
      bnd (F.ne x13 v31) fun v32 =>
      bite v32 (
        some (.inl ())) (
        bnd (F.lt x13 (-2147483648)) fun v33 =>
        bite v33 (
          some (.inl ())) (
          bnd (F.ge x13 2147483648) fun v34 =>
          bite v34 (
            some (.inl ())) (
            bnd (F.add .i64 x5 4294967296) fun v35 =>
            some (.inr (x0, (x1, (x2, (x3, (x4, (x5, (x6, (x7, (x8, (x9, (x10, (x11, (x12, (x13, (x14, (x15, (x16, (x17, (x18, (x19, (x20, (x21, (x22, (x23, (x24, (x25, (x26, (x27, (x28, (v35, ()))))))))))))))))))))))))))))))))))) (
      bnd (F.lt x13 (-2147483648)) fun v36 =>
      bite v36 (
        some (.inl ())) (
        bnd (F.ge x13 2147483648) fun v37 =>
        bite v37 (
          some (.inl ())) (
          bnd (F.add .i64 x5 4294967296) fun v38 =>
          some (.inr (x0, (x1, (x2, (x3, (x4, (x5, (x6, (x7, (x8, (x9, (x10, (x11, (x12, (x13, (x14, (x15, (x16, (x17, (x18, (x19, (x20, (x21, (x22, (x23, (x24, (x25, (x26, (x27, (x28, (v38, ()))))))))))))))))))))))))))))))))))

noncomputable def glazierlaw13_VmStays_j6 (fl : Nat) (x0 : Bool) (x1 : List (Int × Int × Int × Int × Int)) (x2 : Int) (x3 : Int) (x4 : Int) (x5 : Int) (x6 : Int) (x7 : Int) (x8 : Int) (x9 : Int) (x10 : Int) (x11 : Int) (x12 : Int) (x13 : Int) (x14 : Int) (x15 : Int) (x16 : Int) (x17 : Int) (x18 : Bool) (x19 : Bool) (x20 : Bool) (x21 : Bool) (x22 : Bool) (x23 : Bool) (x24 : Bool) (x25 : Bool) (x26 : Int) (x27 : Int) (x28 : Int) (x29 : Int) : Option (((Unit) ⊕ (Bool × (List (Int × Int × Int × Int × Int)) × Int × Int × Int × Int × Int × Int × Int × Int × Int × Int × Int × Int × Int × Int × Int × Int × Bool × Bool × Bool × Bool × Bool × Bool × Bool × Bool × Int × Int × Int × Int × Int × Unit))) :=
    bnd (F.not x22) fun v30 =>
    bite v30 (
      bnd (F.conv .i32 x6) fun v31 =>
      bnd (F.conv .i64 v31) fun v32 =>
      bnd (F.ne x14 v32) fun v33 =>
      bite v33 (
        some (.inl ())) (
        bnd (F.lt x14 (-2147483648)) fun v34 =>
        bite v34 (
          some (.inl ())) (
          bnd (F.ge x14 2147483648) fun v35 =>
          bite v35 (
            some (.inl ())) (
            bnd (F.add .i64 x6 4294967296) fun v36 =>
            some (.inr (x0, (x1, (x2, (x3, (x4, (x5, (x6, (x7, (x8, (x9, (x10, (x11, (x12, (x13, (x14, (x15, (x16, (x17, (x18, (x19, (x20, (x21, (x22, (x23, (x24, (x25, (x26, (x27, (x28, (x29, (v36, ())))))))))))))))))))))))))))))))))))) (
      bnd (F.lt x14 (-2147483648)) fun v37 =>
      bite v37 (
        some (.inl ())) (
        bnd (F.ge x14 2147483648) fun v38 =>
        bite v38 (
          some (.inl ())) (
          bnd (F.add .i64 x6 4294967296) fun v39 =>
          some (.inr (x0, (x1, (x2, (x3, (x4, (x5, (x6, (x7, (x8, (x9, (x10, (x11, (x12, (x13, (x14, (x15, (x16, (x17, (x18, (x19, (x20, (x21, (x22, (x23, (x24, (x25, (x26, (x27, (x28, (x29, (v39, ())))))))))))))))))))))))))))))))))))

noncomputable def glazierlaw13_VmStays_j7 (fl : Nat) (x0 : Bool) (x1 : List (Int × Int × Int × Int × Int)) (x2 : Int) (x3 : Int) (x4 : Int) (x5 : Int) (x6 : Int) (x7 : Int) (x8 : Int) (x9 : Int) (x10 : Int) (x11 : Int) (x12 : Int) (x13 : Int) (x14 : Int) (x15 : Int) (x16 : Int) (x17 : Int) (x18 : Bool) (x19 : Bool) (x20 : Bool) (x21 : Bool) (x22 : Bool) (x23 : Bool) (x24 : Bool) (x25 : Bool) (x26 : Int) (x27 : Int) (x28 : Int) (x29 : Int) (x30 : Int) : Option (((Unit) ⊕ (Bool × (List (Int × Int × Int × Int × Int)) × Int × Int × Int × Int × Int × Int × Int × Int × Int × Int × Int × Int × Int × Int × Int × Int × Bool × Bool × Bool × Bool × Bool × Bool × Bool × Bool × Int × Int × Int × Int × Int × Int × Unit))) :=
    bnd (F.not x23) fun v31 =>
    bite v31 (
      bnd (F.conv .i32 x7) fun v32 =>
      bnd (F.conv .i64 v32) fun v33 =>
      bnd (F.ne x15 v33) fun v34 =>
      bite v34 (
        some (.inl ())) (
        bnd (F.lt x15 (-2147483648)) fun v35 =>
        bite v35 (
          some (.inl ())) (
          bnd (F.ge x15 2147483648) fun v36 =>
          bite v36 (
            some (.inl ())) (
            bnd (F.add .i64 x7 4294967296) fun v37 =>
            some (.inr (x0, (x1, (x2, (x3, (x4, (x5, (x6, (x7, (x8, (x9, (x10, (x11, (x12, (x13, (x14, (x15, (x16, (x17, (x18, (x19, (x20, (x21, (x22, (x23, (x24, (x25, (x26, (x27, (x28, (x29, (x30, (v37, ()))))))))))))))))))))))))))))))))))))) (
      bnd (F.lt x15 (-2147483648)) fun v38 =>
      bite v38 (
        some (.inl ())) (
        bnd (F.ge x15 2147483648) fun v39 =>
        bite v39 (
          some (.inl ())) (
          bnd (F.add .i64 x7 4294967296) fun v40 =>
          some (.inr (x0, (x1, (x2, (x3, (x4, (x5, (x6, (x7, (x8, (x9, (x10, (x11, (x12, (x13, (x14, (x15, (x16, (x17, (x18, (x19, (x20, (x21, (x22, (x23, (x24, (x25, (x26, (x27, (x28, (x29, (x30, (v40, ()))))))))))))))))))))))))))))))))))))

noncomputable def glazierlaw13_VmStays_j8 (fl : Nat) (x0 : Bool) (x1 : List (Int × Int × Int × Int × Int)) (x2 : Int) (x3 : Int) (x4 : Int) (x5 : Int) (x6 : Int) (x7 : Int) (x8 : Int) (x9 : Int) (x10 : Int) (x11 : Int) (x12 : Int) (x13 : Int) (x14 : Int) (x15 : Int) (x16 : Int) (x17 : Int) (x18 : Bool) (x19 : Bool) (x20 : Bool) (x21 : Bool) (x22 : Bool) (x23 : Bool) (x24 : Bool) (x25 : Bool) (x26 : Int) (x27 : Int) (x28 : Int) (x29 : Int) (x30 : Int) (x31 : Int) : Option (((Unit) ⊕ (Bool × (List (Int × Int × Int × Int × Int)) × Int × Int × Int × Int × Int × Int × Int × Int × Int × Int × Int × Int × Int × Int × Int × Int × Bool × Bool × Bool × Bool × Bool × Bool × Bool × Bool × Int × Int × Int × Int × Int × Int × Int × Unit))) :=
    bnd (F.not x24) fun v32 =>
    bite v32 (
      bnd (F.conv .i32 x8) fun v33 =>
      bnd (F.conv .i64 v33) fun v34 =>
      bnd (F.ne x16 v34) fun v35 =>
      bite v35 (
        some (.inl ())) (
        bnd (F.lt x16 (-2147483648)) fun v36 =>
        bite v36 (
          some (.inl ())) (
          bnd (F.ge x16 2147483648) fun v37 =>
          bite v37 (
            some (.inl ())) (
            bnd (F.add .i64 x8 4294967296) fun v38 =>
            some (.inr (x0, (x1, (x2, (x3, (x4, (x5, (x6, (x7, (x8, (x9, (x10, (x11, (x12, (x13, (x14, (x15, (x16, (x17, (x18, (x19, (x20, (x21, (x22, (x23, (x24, (x25, (x26, (x27, (x28, (x29, (x30, (x31, (v38, ())))))))))))))))))))))))))))))))))))))) (
      bnd (F.lt x16 (-2147483648)) fun v39 =>
      bite v39 (
        some (.inl ())) (
        bnd (F.ge x16 2147483648) fun v40 =>
        bite v40 (
          some (.inl ())) (
          bnd (F.add .i64 x8 4294967296) fun v41 =>
          some (.inr (x0, (x1, (x2, (x3, (x4, (x5, (x6, (x7, (x8, (x9, (x10, (x11, (x12, (x13, (x14, (x15, (x16, (x17, (x18, (x19, (x20, (x21, (x22, (x23, (x24, (x25, (x26, (x27, (x28, (x29, (x30, (x31, (v41, ())))))))))))))))))))))))))))))))))))))

noncomputable def glazierlaw13_VmStays_j9 (fl : Nat) (x0 : Bool) (x1 : List (Int × Int × Int × Int × Int)) (x2 : Int) (x3 : Int) (x4 : Int) (x5 : Int) (x6 : Int) (x7 : Int) (x8 : Int) (x9 : Int) (x10 : Int) (x11 : Int) (x12 : Int) (x13 : Int) (x14 : Int) (x15 : Int) (x16 : Int) (x17 : Int) (x18 : Bool) (x19 : Bool) (x20 : Bool) (x21 : Bool) (x22 : Bool) (x23 : Bool) (x24 : Bool) (x25 : Bool) (x26 : Int) (x27 : Int) (x28 : Int) (x29 : Int) (x30 : Int) (x31 : Int) (x32 : Int) : Option (((Unit) ⊕ (Bool × (List (Int × Int × Int × Int × Int)) × Int × Int × Int × Int × Int × Int × Int × Int × Int × Int × Int × Int × Int × Int × Int × Int × Bool × Bool × Bool × Bool × Bool × Bool × Bool × Bool × Int × Int × Int × Int × Int × Int × Int × Int × Unit))) :=
    bnd (F.not x25) fun v33 =>
    bite v33 (
      bnd (F.conv .i32 x9) fun v34 =>
      bnd (F.conv .i64 v34) fun v35 =>
      bnd (F.ne x17 v35) fun v36 =>
      bite v36 (
        some (.inl ())) (
        bnd (F.lt x17 (-2147483648)) fun v37 =>
        bite v37 (
          some (.inl ())) (
          bnd (F.ge x17 2147483648) fun v38 =>
          bite v38 (
            some (.inl ())) (
            bnd (F.add .i64 x9 4294967296) fun v39 =>
            some (.inr (x0, (x1, (x2, (x3, (x4, (x5, (x6, (x7, (x8, (x9, (x10, (x11, (x12, (x13, (x14, (x15, (x16, (x17, (x18, (x19, (x20, (x21, (x22, (x23, (x24, (x25, (x26, (x27, (x28, (x29, (x30, (x31, (x32, (v39, ()))))))))))))))))))))))))))))))))))))))) (
      bnd (F.lt x17 (-2147483648)) fun v40 =>
      bite v40 (
        some (.inl ())) (
        bnd (F.ge x17 2147483648) fun v41 =>
        bite v41 (
          some (.inl ())) (
          bnd (F.add .i64 x9 4294967296) fun v42 =>
          some (.inr (x0, (x1, (x2, (x3, (x4, (x5, (x6, (x7, (x8, (x9, (x10, (x11, (x12, (x13, (x14, (x15, (x16, (x17, (x18, (x19, (x20, (x21, (x22, (x23, (x24, (x25, (x26, (x27, (x28, (x29, (x30, (x31, (x32, (v42, ()))))))))))))))))))))))))))))))))))))))

/-- glazier/glazierlaw13.VmStays -/
noncomputable def glazierlaw13_VmStays (fl : Nat) (x0 : List (Int × Int × Int × Int × Int)) (x1 : List (Int × Int × Int × Int × Int)) (x2 : Int × Int × Int × Int × Int × Int × Int × Int) : Option (Bool) :=
  obind (glazierlaw13_shown fl) fun q3 =>
  bnd (F.len x0) fun v4 =>
  bnd (F.gt v4 16) fun v5 =>
  bite v5 (
    bgd (F.cutOk x0 0 16) (
      bnd (F.cut x0 0 16) fun v6 =>
      bnd (F.len x1) fun v7 =>
      bnd (F.gt v7 16) fun v8 =>
      bite v8 (
        bgd (F.cutOk x1 0 16) (
          bnd (F.cut x1 0 16) fun v9 =>
          obind (glazierlaw13_straight fl v6) fun q10 =>
          obind (glazierlaw13_straight fl v9) fun q11 =>
          obind (vm_Run fl q10 (0, (0, [])) x2) fun q12 =>
          obind (vm_Run fl q11 (0, (0, [])) q12.1) fun q13 =>
          bgd (F.appOk (α := Unit) 16 [] q10) (
            bgd (F.appOk 16 (F.app [] q10) q11) (
              obind (vm_Run fl (F.app (F.app [] q10) q11) (0, (0, [])) x2) fun q14 =>
              bnd (F.ne q12.2.2 0) fun v15 =>
              bite v15 (
                some false) (
                bnd (F.ne q13.2.2 0) fun v16 =>
                bite v16 (
                  some false) (
                  bnd (F.ne q14.2.2 0) fun v17 =>
                  bite v17 (
                    some false) (
                    bnd (F.not (F.both (F.eq q13.1.1 q14.1.1) (F.both (F.eq q13.1.2.1 q14.1.2.1) (F.both (F.eq q13.1.2.2.1 q14.1.2.2.1) (F.both (F.eq q13.1.2.2.2.1 q14.1.2.2.2.1) (F.both (F.eq q13.1.2.2.2.2.1 q14.1.2.2.2.2.1) (F.both (F.eq q13.1.2.2.2.2.2.1 q14.1.2.2.2.2.2.1) (F.both (F.eq q13.1.2.2.2.2.2.2.1 q14.1.2.2.2.2.2.2.1) (F.eq q13.1.2.2.2.2.2.2.2 q14.1.2.2.2.2.2.2.2))))))))) fun v18 =>
                    bite v18 (
                      some false) (
                      bnd (F.add .i64 q12.2.1 q13.2.1) fun v19 =>
                      bnd (F.ne v19 q14.2.1) fun v20 =>
                      bite v20 (
                        some false) (
                        bnd (F.len q10) fun v21 =>
                        bnd (F.ne q12.2.1 v21) fun v22 =>
                        bite v22 (
                          some false) (
                          obind (glazierlaw13_VmStays_l1 fl fl q3 q10 0 x2.1 x2.2.1 x2.2.2.1 x2.2.2.2.1 x2.2.2.2.2.1 x2.2.2.2.2.2.1 x2.2.2.2.2.2.2.1 x2.2.2.2.2.2.2.2 q12.1.1 q12.1.2.1 q12.1.2.2.1 q12.1.2.2.2.1 q12.1.2.2.2.2.1 q12.1.2.2.2.2.2.1 q12.1.2.2.2.2.2.2.1 q12.1.2.2.2.2.2.2.2 false false false false false false false false) fun q23 =>
                          obind (glazierlaw13_VmStays_j2 fl q23.1 q23.2.1 q23.2.2.1 q23.2.2.2.1 q23.2.2.2.2.1 q23.2.2.2.2.2.1 q23.2.2.2.2.2.2.1 q23.2.2.2.2.2.2.2.1 q23.2.2.2.2.2.2.2.2.1 q23.2.2.2.2.2.2.2.2.2.1 q23.2.2.2.2.2.2.2.2.2.2.1 q23.2.2.2.2.2.2.2.2.2.2.2.1 q23.2.2.2.2.2.2.2.2.2.2.2.2.1 q23.2.2.2.2.2.2.2.2.2.2.2.2.2.1 q23.2.2.2.2.2.2.2.2.2.2.2.2.2.2.1 q23.2.2.2.2.2.2.2.2.2.2.2.2.2.2.2.1 q23.2.2.2.2.2.2.2.2.2.2.2.2.2.2.2.2.1 q23.2.2.2.2.2.2.2.2.2.2.2.2.2.2.2.2.2.1 q23.2.2.2.2.2.2.2.2.2.2.2.2.2.2.2.2.2.2.1 q23.2.2.2.2.2.2.2.2.2.2.2.2.2.2.2.2.2.2.2.1 q23.2.2.2.2.2.2.2.2.2.2.2.2.2.2.2.2.2.2.2.2.1 q23.2.2.2.2.2.2.2.2.2.2.2.2.2.2.2.2.2.2.2.2.2.1 q23.2.2.2.2.2.2.2.2.2.2.2.2.2.2.2.2.2.2.2.2.2.2.1 q23.2.2.2.2.2.2.2.2.2.2.2.2.2.2.2.2.2.2.2.2.2.2.2.1 q23.2.2.2.2.2.2.2.2.2.2.2.2.2.2.2.2.2.2.2.2.2.2.2.2.1 q23.2.2.2.2.2.2.2.2.2.2.2.2.2.2.2.2.2.2.2.2.2.2.2.2.2.1) fun q24 =>
                          osum q24 (fun s25 =>
                            some false) (fun r26 =>
                            obind (glazierlaw13_VmStays_j3 fl r26.1 r26.2.1 r26.2.2.1 r26.2.2.2.1 r26.2.2.2.2.1 r26.2.2.2.2.2.1 r26.2.2.2.2.2.2.1 r26.2.2.2.2.2.2.2.1 r26.2.2.2.2.2.2.2.2.1 r26.2.2.2.2.2.2.2.2.2.1 r26.2.2.2.2.2.2.2.2.2.2.1 r26.2.2.2.2.2.2.2.2.2.2.2.1 r26.2.2.2.2.2.2.2.2.2.2.2.2.1 r26.2.2.2.2.2.2.2.2.2.2.2.2.2.1 r26.2.2.2.2.2.2.2.2.2.2.2.2.2.2.1 r26.2.2.2.2.2.2.2.2.2.2.2.2.2.2.2.1 r26.2.2.2.2.2.2.2.2.2.2.2.2.2.2.2.2.1 r26.2.2.2.2.2.2.2.2.2.2.2.2.2.2.2.2.2.1 r26.2.2.2.2.2.2.2.2.2.2.2.2.2.2.2.2.2.2.1 r26.2.2.2.2.2.2.2.2.2.2.2.2.2.2.2.2.2.2.2.1 r26.2.2.2.2.2.2.2.2.2.2.2.2.2.2.2.2.2.2.2.2.1 r26.2.2.2.2.2.2.2.2.2.2.2.2.2.2.2.2.2.2.2.2.2.1 r26.2.2.2.2.2.2.2.2.2.2.2.2.2.2.2.2.2.2.2.2.2.2.1 r26.2.2.2.2.2.2.2.2.2.2.2.2.2.2.2.2.2.2.2.2.2.2.2.1 r26.2.2.2.2.2.2.2.2.2.2.2.2.2.2.2.2.2.2.2.2.2.2.2.2.1 r26.2.2.2.2.2.2.2.2.2.2.2.2.2.2.2.2.2.2.2.2.2.2.2.2.2.1 r26.2.2.2.2.2.2.2.2.2.2.2.2.2.2.2.2.2.2.2.2.2.2.2.2.2.2.1) fun q27 =>
                            osum q27 (fun s28 =>
                              some false) (fun r29 =>
                              obind (glazierlaw13_VmStays_j4 fl r29.1 r29.2.1 r29.2.2.1 r29.2.2.2.1 r29.2.2.2.2.1 r29.2.2.2.2.2.1 r29.2.2.2.2.2.2.1 r29.2.2.2.2.2.2.2.1 r29.2.2.2.2.2.2.2.2.1 r29.2.2.2.2.2.2.2.2.2.1 r29.2.2.2.2.2.2.2.2.2.2.1 r29.2.2.2.2.2.2.2.2.2.2.2.1 r29.2.2.2.2.2.2.2.2.2.2.2.2.1 r29.2.2.2.2.2.2.2.2.2.2.2.2.2.1 r29.2.2.2.2.2.2.2.2.2.2.2.2.2.2.1 r29.2.2.2.2.2.2.2.2.2.2.2.2.2.2.2.1 r29.2.2.2.2.2.2.2.2.2.2.2.2.2.2.2.2.1 r29.2.2.2.2.2.2.2.2.2.2.2.2.2.2.2.2.2.1 r29.2.2.2.2.2.2.2.2.2.2.2.2.2.2.2.2.2.2.1 r29.2.2.2.2.2.2.2.2.2.2.2.2.2.2.2.2.2.2.2.1 r29.2.2.2.2.2.2.2.2.2.2.2.2.2.2.2.2.2.2.2.2.1 r29.2.2.2.2.2.2.2.2.2.2.2.2.2.2.2.2.2.2.2.2.2.1 r29.2.2.2.2.2.2.2.2.2.2.2.2.2.2.2.2.2.2.2.2.2.2.1 r29.2.2.2.2.2.2.2.2.2.2.2.2.2.2.2.2.2.2.2.2.2.2.2.1 r29.2.2.2.2.2.2.2.2.2.2.2.2.2.2.2.2.2.2.2.2.2.2.2.2.1 r29.2.2.2.2.2.2.2.2.2.2.2.2.2.2.2.2.2.2.2.2.2.2.2.2.2.1 r29.2.2.2.2.2.2.2.2.2.2.2.2.2.2.2.2.2.2.2.2.2.2.2.2.2.2.1 r29.2.2.2.2.2.2.2.2.2.2.2.2.2.2.2.2.2.2.2.2.2.2.2.2.2.2.2.1) fun q30 =>
                              osum q30 (fun s31 =>
                                some false) (fun r32 =>
                                obind (glazierlaw13_VmStays_j5 fl r32.1 r32.2.1 r32.2.2.1 r32.2.2.2.1 r32.2.2.2.2.1 r32.2.2.2.2.2.1 r32.2.2.2.2.2.2.1 r32.2.2.2.2.2.2.2.1 r32.2.2.2.2.2.2.2.2.1 r32.2.2.2.2.2.2.2.2.2.1 r32.2.2.2.2.2.2.2.2.2.2.1 r32.2.2.2.2.2.2.2.2.2.2.2.1 r32.2.2.2.2.2.2.2.2.2.2.2.2.1 r32.2.2.2.2.2.2.2.2.2.2.2.2.2.1 r32.2.2.2.2.2.2.2.2.2.2.2.2.2.2.1 r32.2.2.2.2.2.2.2.2.2.2.2.2.2.2.2.1 r32.2.2.2.2.2.2.2.2.2.2.2.2.2.2.2.2.1 r32.2.2.2.2.2.2.2.2.2.2.2.2.2.2.2.2.2.1 r32.2.2.2.2.2.2.2.2.2.2.2.2.2.2.2.2.2.2.1 r32.2.2.2.2.2.2.2.2.2.2.2.2.2.2.2.2.2.2.2.1 r32.2.2.2.2.2.2.2.2.2.2.2.2.2.2.2.2.2.2.2.2.1 r32.2.2.2.2.2.2.2.2.2.2.2.2.2.2.2.2.2.2.2.2.2.1 r32.2.2.2.2.2.2.2.2.2.2.2.2.2.2.2.2.2.2.2.2.2.2.1 r32.2.2.2.2.2.2.2.2.2.2.2.2.2.2.2.2.2.2.2.2.2.2.2.1 r32.2.2.2.2.2.2.2.2.2.2.2.2.2.2.2.2.2.2.2.2.2.2.2.2.1 r32.2.2.2.2.2.2.2.2.2.2.2.2.2.2.2.2.2.2.2.2.2.2.2.2.2.1 r32.2.2.2.2.2.2.2.2.2.2.2.2.2.2.2.2.2.2.2.2.2.2.2.2.2.2.1 r32.2.2.2.2.2.2.2.2.2.2.2.2.2.2.2.2.2.2.2.2.2.2.2.2.2.2.2.1 r32.2.2.2.2.2.2.2.2.2.2.2.2.2.2.2.2.2.2.2.2.2.2.2.2.2.2.2.2.1) fun q33 =>
                                osum q33 (fun s34 =>
                                  some false) (fun r35 =>
                                  obind (glazierlaw13_VmStays_j6 fl r35.1 r35.2.1 r35.2.2.1 r35.2.2.2.1 r35.2.2.2.2.1 r35.2.2.2.2.2.1 r35.2.2.2.2.2.2.1 r35.2.2.2.2.2.2.2.1 r35.2.2.2.2.2.2.2.2.1 r35.2.2.2.2.2.2.2.2.2.1 r35.2.2.2.2.2.2.2.2.2.2.1 r35.2.2.2.2.2.2.2.2.2.2.2.1 r35.2.2.2.2.2.2.2.2.2.2.2.2.1 r35.2.2.2.2.2.2.2.2.2.2.2.2.2.1 r35.2.2.2.2.2.2.2.2.2.2.2.2.2.2.1 r35.2.2.2.2.2.2.2.2.2.2.2.2.2.2.2.1 r35.2.2.2.2.2.2.2.2.2.2.2.2.2.2.2.2.1 r35.2.2.2.2.2.2.2.2.2.2.2.2.2.2.2.2.2.1 r35.2.2.2.2.2.2.2.2.2.2.2.2.2.2.2.2.2.2.1 r35.2.2.2.2.2.2.2.2.2.2.2.2.2.2.2.2.2.2.2.1 r35.2.2.2.2.2.2.2.2.2.2.2.2.2.2.2.2.2.2.2.2.1 r35.2.2.2.2.2.2.2.2.2.2.2.2.2.2.2.2.2.2.2.2.2.1 r35.2.2.2.2.2.2.2.2.2.2.2.2.2.2.2.2.2.2.2.2.2.2.1 r35.2.2.2.2.2.2.2.2.2.2.2.2.2.2.2.2.2.2.2.2.2.2.2.1 r35.2.2.2.2.2.2.2.2.2.2.2.2.2.2.2.2.2.2.2.2.2.2.2.2.1 r35.2.2.2.2.2.2.2.2.2.2.2.2.2.2.2.2.2.2.2.2.2.2.2.2.2.1 r35.2.2.2.2.2.2.2.2.2.2.2.2.2.2.2.2.2.2.2.2.2.2.2.2.2.2.1 r35.2.2.2.2.2.2.2.2.2.2.2.2.2.2.2.2.2.2.2.2.2.2.2.2.2.2.2.1 r35.2.2.2.2.2.2.2.2.2.2.2.2.2.2.2.2.2.2.2.2.2.2.2.2.2.2.2.2.1 r35.2.2.2.2.2.2.2.2.2.2.2.2.2.2.2.2.2.2.2.2.2.2.2.2.2.2.2.2.2.1) fun q36 =>
                                  osum q36 (fun s37 =>
                                    some false) (fun r38 =>
                                    obind (glazierlaw13_VmStays_j7 fl r38.1 r38.2.1 r38.2.2.1 r38.2.2.2.1 r38.2.2.2.2.1 r38.2.2.2.2.2.1 r38.2.2.2.2.2.2.1 r38.2.2.2.2.2.2.2.1 r38.2.2.2.2.2.2.2.2.1 r38.2.2.2.2.2.2.2.2.2.1 r38.2.2.2.2.2.2.2.2.2.2.1 r38.2.2.2.2.2.2.2.2.2.2.2.1 r38.2.2.2.2.2.2.2.2.2.2.2.2.1 r38.2.2.2.2.2.2.2.2.2.2.2.2.2.1 r38.2.2.2.2.2.2.2.2.2.2.2.2.2.2.1 r38.2.2.2.2.2.2.2.2.2.2.2.2.2.2.2.1 r38.2.2.2.2.2.2.2.2.2.2.2.2.2.2.2.2.1 r38.2.2.2.2.2.2.2.2.2.2.2.2.2.2.2.2.2.1 r38.2.2.2.2.2.2.2.2.2.2.2.2.2.2.2.2.2.2.1 r38.2.2.2.2.2.2.2.2.2.2.2.2.2.2.2.2.2.2.2.1 r38.2.2.2.2.2.2.2.2.2.2.2.2.2.2.2.2.2.2.2.2.1 r38.2.2.2.2.2.2.2.2.2.2.2.2.2.2.2.2.2.2.2.2.2.1 r38.2.2.2.2.2.2.2.2.2.2.2.2.2.2.2.2.2.2.2.2.2.2.1 r38.2.2.2.2.2.2.2.2.2.2.2.2.2.2.2.2.2.2.2.2.2.2.2.1 r38.2.2.2.2.2.2.2.2.2.2.2.2.2.2.2.2.2.2.2.2.2.2.2.2.1 r38.2.2.2.2.2.2.2.2.2.2.2.2.2.2.2.2.2.2.2.2.2.2.2.2.2.1 r38.2.2.2.2.2.2.2.2.2.2.2.2.2.2.2.2.2.2.2.2.2.2.2.2.2.2.1 r38.2.2.2.2.2.2.2.2.2.2.2.2.2.2.2.2.2.2.2.2.2.2.2.2.2.2.2.1 r38.2.2.2.2.2.2.2.2.2.2.2.2.2.2.2.2.2.2.2.2.2.2.2.2.2.2.2.2.1 r38.2.2.2.2.2.2.2.2.2.2.2.2.2.2.2.2.2.2.2.2.2.2.2.2.2.2.2.2.2.1 r38.2.2.2.2.2.2.2.2.2.2.2.2.2.2.2.2.2.2.2.2.2.2.2.2.2.2.2.2.2.2.1) fun q39 =>
                                    osum q39 (fun s40 =>
                                      some false) (fun r41 =>
                                      obind (glazierlaw13_VmStays_j8 fl r41.1 r41.2.1 r41.2.2.1 r41.2.2.2.1 r41.2.2.2.2.1 r41.2.2.2.2.2.1 r41.2.2.2.2.2.2.1 r41.2.2.2.2.2.2.2.1 r41.2.2.2.2.2.2.2.2.1 r41.2.2.2.2.2.2.2.2.2.1 r41.2.2.2.2.2.2.2.2.2.2.1 r41.2.2.2.2.2.2.2.2.2.2.2.1 r41.2.2.2.2.2.2.2.2.2.2.2.2.1 r41.2.2.2.2.2.2.2.2.2.2.2.2.2.1 r41.2.2.2.2.2.2.2.2.2.2.2.2.2.2.1 r41.2.2.2.2.2.2.2.2.2.2.2.2.2.2.2.1 r41.2.2.2.2.2.2.2.2.2.2.2.2.2.2.2.2.1 r41.2.2.2.2.2.2.2.2.2.2.2.2.2.2.2.2.2.1 r41.2.2.2.2.2.2.2.2.2.2.2.2.2.2.2.2.2.2.1 r41.2.2.2.2.2.2.2.2.2.2.2.2.2.2.2.2.2.2.2.1 r41.2.2.2.2.2.2.2.2.2.2.2.2.2.2.2.2.2.2.2.2.1 r41.2.2.2.2.2.2.2.2.2.2.2.2.2.2.2.2.2.2.2.2.2.1 r41.2.2.2.2.2.2.2.2.2.2.2.2.2.2.2.2.2.2.2.2.2.2.1 r41.2.2.2.2.2.2.2.2.2.2.2.2.2.2.2.2.2.2.2.2.2.2.2.1 r41.2.2.2.2.2.2.2.2.2.2.2.2.2.2.2.2.2.2.2.2.2.2.2.2.1 r41.2.2.2.2.2.2.2.2.2.2.2.2.2.2.2.2.2.2.2.2.2.2.2.2.2.1 r41.2.2.2.2.2.2.2.2.2.2.2.2.2.2.2.2.2.2.2.2.2.2.2.2.2.2.1 r41.2.2.2.2.2.2.2.2.2.2.2.2.2.2.2.2.2.2.2.2.2.2.2.2.2.2.2.1 r41.2.2.2.2.2.2.2.2.2.2.2.2.2.2.2.2.2.2.2.2.2.2.2.2.2.2.2.2.1 r41.2.2.2.2.2.2.2.2.2.2.2.2.2.2.2.2.2.2.2.2.2.2.2.2.2.2.2.2.2.1 r41.2.2.2.2.2.2.2.2.2.2.2.2.2.2.2.2.2.2.2.2.2.2.2.2.2.2.2.2.2.2.1 r41.2.2.2.2.2.2.2.2.2.2.2.2.2.2.2.2.2.2.2.2.2.2.2.2.2.2.2.2.2.2.2.1) fun q42 =>
                                      osum q42 (fun s43 =>
                                        some false) (fun r44 =>
                                        obind (glazierlaw13_VmStays_j9 fl r44.1 r44.2.1 r44.2.2.1 r44.2.2.2.1 r44.2.2.2.2.1 r44.2.2.2.2.2.1 r44.2.2.2.2.2.2.1 r44.2.2.2.2.2.2.2.1 r44.2.2.2.2.2.2.2.2.1 r44.2.2.2.2.2.2.2.2.2.1 r44.2.2.2.2.2.2.2.2.2.2.1 r44.2.2.2.2.2.2.2.2.2.2.2.1 r44.2.2.2.2.2.2.2.2.2.2.2.2.1 r44.2.2.2.2.2.2.2.2.2.2.2.2.2.1 r44.2.2.2.2.2.2.2.2.2.2.2.2.2.2.1 r44.2.2.2.2.2.2.2.2.2.2.2.2.2.2.2.1 r44.2.2.2.2.2.2.2.2.2.2.2.2.2.2.2.2.1 r44.2.2.2.2.2.2.2.2.2.2.2.2.2.2.2.2.2.1 r44.2.2.2.2.2.2.2.2.2.2.2.2.2.2.2.2.2.2.1 r44.2.2.2.2.2.2.2.2.2.2.2.2.2.2.2.2.2.2.2.1 r44.2.2.2.2.2.2.2.2.2.2.2.2.2.2.2.2.2.2.2.2.1 r44.2.2.2.2.2.2.2.2.2.2.2.2.2.2.2.2.2.2.2.2.2.1 r44.2.2.2.2.2.2.2.2.2.2.2.2.2.2.2.2.2.2.2.2.2.2.1 r44.2.2.2.2.2.2.2.2.2.2.2.2.2.2.2.2.2.2.2.2.2.2.2.1 r44.2.2.2.2.2.2.2.2.2.2.2.2.2.2.2.2.2.2.2.2.2.2.2.2.1 r44.2.2.2.2.2.2.2.2.2.2.2.2.2.2.2.2.2.2.2.2.2.2.2.2.2.1 r44.2.2.2.2.2.2.2.2.2.2.2.2.2.2.2.2.2.2.2.2.2.2.2.2.2.2.1 r44.2.2.2.2.2.2.2.2.2.2.2.2.2.2.2.2.2.2.2.2.2.2.2.2.2.2.2.1 r44.2.2.2.2.2.2.2.2.2.2.2.2.2.2.2.2.2.2.2.2.2.2.2.2.2.2.2.2.1 r44.2.2.2.2.2.2.2.2.2.2.2.2.2.2.2.2.2.2.2.2.2.2.2.2.2.2.2.2.2.1 r44.2.2.2.2.2.2.2.2.2.2.2.2.2.2.2.2.2.2.2.2.2.2.2.2.2.2.2.2.2.2.1 r44.2.2.2.2.2.2.2.2.2.2.2.2.2.2.2.2.2.2.2.2.2.2.2.2.2.2.2.2.2.2.2.1 r44.2.2.2.2.2.2.2.2.2.2.2.2.2.2.2.2.2.2.2.2.2.2.2.2.2.2.2.2.2.2.2.2.1) fun q45 =>
                                        osum q45 (fun s46 =>
                                          some false) (fun r47 =>
                                          obind (vm_Run fl r47.2.1 (0, (0, [])) (r47.2.2.2.2.2.2.2.2.2.2.2.2.2.2.2.2.2.2.2.2.2.2.2.2.2.2.1, (r47.2.2.2.2.2.2.2.2.2.2.2.2.2.2.2.2.2.2.2.2.2.2.2.2.2.2.2.1, (r47.2.2.2.2.2.2.2.2.2.2.2.2.2.2.2.2.2.2.2.2.2.2.2.2.2.2.2.2.1, (r47.2.2.2.2.2.2.2.2.2.2.2.2.2.2.2.2.2.2.2.2.2.2.2.2.2.2.2.2.2.1, (r47.2.2.2.2.2.2.2.2.2.2.2.2.2.2.2.2.2.2.2.2.2.2.2.2.2.2.2.2.2.2.1, (r47.2.2.2.2.2.2.2.2.2.2.2.2.2.2.2.2.2.2.2.2.2.2.2.2.2.2.2.2.2.2.2.1, (r47.2.2.2.2.2.2.2.2.2.2.2.2.2.2.2.2.2.2.2.2.2.2.2.2.2.2.2.2.2.2.2.2.1, r47.2.2.2.2.2.2.2.2.2.2.2.2.2.2.2.2.2.2.2.2.2.2.2.2.2.2.2.2.2.2.2.2.2.1)))))))) fun q48 =>
                                          bite r47.1 (
                                            bnd (F.eq q48.2.2 0) fun v49 =>
                                            bite v49 (
                                              bnd (F.both (F.eq q48.1.1 r47.2.2.2.2.2.2.2.2.2.2.1) (F.both (F.eq q48.1.2.1 r47.2.2.2.2.2.2.2.2.2.2.2.1) (F.both (F.eq q48.1.2.2.1 r47.2.2.2.2.2.2.2.2.2.2.2.2.1) (F.both (F.eq q48.1.2.2.2.1 r47.2.2.2.2.2.2.2.2.2.2.2.2.2.1) (F.both (F.eq q48.1.2.2.2.2.1 r47.2.2.2.2.2.2.2.2.2.2.2.2.2.2.1) (F.both (F.eq q48.1.2.2.2.2.2.1 r47.2.2.2.2.2.2.2.2.2.2.2.2.2.2.2.1) (F.both (F.eq q48.1.2.2.2.2.2.2.1 r47.2.2.2.2.2.2.2.2.2.2.2.2.2.2.2.2.1) (F.eq q48.1.2.2.2.2.2.2.2 r47.2.2.2.2.2.2.2.2.2.2.2.2.2.2.2.2.2.1)))))))) fun v50 =>
                                              some v50) (
                                              some false)) (
                                            some false))))))))))))))))))) (
        obind (glazierlaw13_straight fl v6) fun q51 =>
        obind (glazierlaw13_straight fl x1) fun q52 =>
        obind (vm_Run fl q51 (0, (0, [])) x2) fun q53 =>
        obind (vm_Run fl q52 (0, (0, [])) q53.1) fun q54 =>
        bgd (F.appOk (α := Unit) 16 [] q51) (
          bgd (F.appOk 16 (F.app [] q51) q52) (
            obind (vm_Run fl (F.app (F.app [] q51) q52) (0, (0, [])) x2) fun q55 =>
            bnd (F.ne q53.2.2 0) fun v56 =>
            bite v56 (
              some false) (
              bnd (F.ne q54.2.2 0) fun v57 =>
              bite v57 (
                some false) (
                bnd (F.ne q55.2.2 0) fun v58 =>
                bite v58 (
                  some false) (
                  bnd (F.not (F.both (F.eq q54.1.1 q55.1.1) (F.both (F.eq q54.1.2.1 q55.1.2.1) (F.both (F.eq q54.1.2.2.1 q55.1.2.2.1) (F.both (F.eq q54.1.2.2.2.1 q55.1.2.2.2.1) (F.both (F.eq q54.1.2.2.2.2.1 q55.1.2.2.2.2.1) (F.both (F.eq q54.1.2.2.2.2.2.1 q55.1.2.2.2.2.2.1) (F.both (F.eq q54.1.2.2.2.2.2.2.1 q55.1.2.2.2.2.2.2.1) (F.eq q54.1.2.2.2.2.2.2.2 q55.1.2.2.2.2.2.2.2))))))))) fun v59 =>
                  bite v59 (
                    some false) (
                    bnd (F.add .i64 q53.2.1 q54.2.1) fun v60 =>
                    bnd (F.ne v60 q55.2.1) fun v61 =>
                    bite v61 (
                      some false) (
                      bnd (F.len q51) fun v62 =>
                      bnd (F.ne q53.2.1 v62) fun v63 =>
                      bite v63 (
                        some false) (
                        obind (glazierlaw13_VmStays_l1 fl fl q3 q51 0 x2.1 x2.2.1 x2.2.2.1 x2.2.2.2.1 x2.2.2.2.2.1 x2.2.2.2.2.2.1 x2.2.2.2.2.2.2.1 x2.2.2.2.2.2.2.2 q53.1.1 q53.1.2.1 q53.1.2.2.1 q53.1.2.2.2.1 q53.1.2.2.2.2.1 q53.1.2.2.2.2.2.1 q53.1.2.2.2.2.2.2.1 q53.1.2.2.2.2.2.2.2 false false false false false false false false) fun q64 =>
                        obind (glazierlaw13_VmStays_j2 fl q64.1 q64.2.1 q64.2.2.1 q64.2.2.2.1 q64.2.2.2.2.1 q64.2.2.2.2.2.1 q64.2.2.2.2.2.2.1 q64.2.2.2.2.2.2.2.1 q64.2.2.2.2.2.2.2.2.1 q64.2.2.2.2.2.2.2.2.2.1 q64.2.2.2.2.2.2.2.2.2.2.1 q64.2.2.2.2.2.2.2.2.2.2.2.1 q64.2.2.2.2.2.2.2.2.2.2.2.2.1 q64.2.2.2.2.2.2.2.2.2.2.2.2.2.1 q64.2.2.2.2.2.2.2.2.2.2.2.2.2.2.1 q64.2.2.2.2.2.2.2.2.2.2.2.2.2.2.2.1 q64.2.2.2.2.2.2.2.2.2.2.2.2.2.2.2.2.1 q64.2.2.2.2.2.2.2.2.2.2.2.2.2.2.2.2.2.1 q64.2.2.2.2.2.2.2.2.2.2.2.2.2.2.2.2.2.2.1 q64.2.2.2.2.2.2.2.2.2.2.2.2.2.2.2.2.2.2.2.1 q64.2.2.2.2.2.2.2.2.2.2.2.2.2.2.2.2.2.2.2.2.1 q64.2.2.2.2.2.2.2.2.2.2.2.2.2.2.2.2.2.2.2.2.2.1 q64.2.2.2.2.2.2.2.2.2.2.2.2.2.2.2.2.2.2.2.2.2.2.1 q64.2.2.2.2.2.2.2.2.2.2.2.2.2.2.2.2.2.2.2.2.2.2.2.1 q64.2.2.2.2.2.2.2.2.2.2.2.2.2.2.2.2.2.2.2.2.2.2.2.2.1 q64.2.2.2.2.2.2.2.2.2.2.2.2.2.2.2.2.2.2.2.2.2.2.2.2.2.1) fun q65 =>
                        osum q65 (fun s66 =>
                          some false) (fun r67 =>
                          obind (glazierlaw13_VmStays_j3 fl r67.1 r67.2.1 r67.2.2.1 r67.2.2.2.1 r67.2.2.2.2.1 r67.2.2.2.2.2.1 r67.2.2.2.2.2.2.1 r67.2.2.2.2.2.2.2.1 r67.2.2.2.2.2.2.2.2.1 r67.2.2.2.2.2.2.2.2.2.1 r67.2.2.2.2.2.2.2.2.2.2.1 r67.2.2.2.2.2.2.2.2.2.2.2.1 r67.2.2.2.2.2.2.2.2.2.2.2.2.1 r67.2.2.2.2.2.2.2.2.2.2.2.2.2.1 r67.2.2.2.2.2.2.2.2.2.2.2.2.2.2.1 r67.2.2.2.2.2.2.2.2.2.2.2.2.2.2.2.1 r67.2.2.2.2.2.2.2.2.2.2.2.2.2.2.2.2.1 r67.2.2.2.2.2.2.2.2.2.2.2.2.2.2.2.2.2.1 r67.2.2.2.2.2.2.2.2.2.2.2.2.2.2.2.2.2.2.1 r67.2.2.2.2.2.2.2.2.2.2.2.2.2.2.2.2.2.2.2.1 r67.2.2.2.2.2.2.2.2.2.2.2.2.2.2.2.2.2.2.2.2.1 r67.2.2.2.2.2.2.2.2.2.2.2.2.2.2.2.2.2.2.2.2.2.1 r67.2.2.2.2.2.2.2.2.2.2.2.2.2.2.2.2.2.2.2.2.2.2.1 r67.2.2.2.2.2.2.2.2.2.2.2.2.2.2.2.2.2.2.2.2.2.2.2.1 r67.2.2.2.2.2.2.2.2.2.2.2.2.2.2.2.2.2.2.2.2.2.2.2.2.1 r67.2.2.2.2.2.2.2.2.2.2.2.2.2.2.2.2.2.2.2.2.2.2.2.2.2.1 r67.2.2.2.2.2.2.2.2.2.2.2.2.2.2.2.2.2.2.2.2.2.2.2.2.2.2.1) fun q68 =>
                          osum q68 (fun s69 =>
                            some false) (fun r70 =>
                            obind (glazierlaw13_VmStays_j4 fl r70.1 r70.2.1 r70.2.2.1 r70.2.2.2.1 r70.2.2.2.2.1 r70.2.2.2.2.2.1 r70.2.2.2.2.2.2.1 r70.2.2.2.2.2.2.2.1 r70.2.2.2.2.2.2.2.2.1 r70.2.2.2.2.2.2.2.2.2.1 r70.2.2.2.2.2.2.2.2.2.2.1 r70.2.2.2.2.2.2.2.2.2.2.2.1 r70.2.2.2.2.2.2.2.2.2.2.2.2.1 r70.2.2.2.2.2.2.2.2.2.2.2.2.2.1 r70.2.2.2.2.2.2.2.2.2.2.2.2.2.2.1 r70.2.2.2.2.2.2.2.2.2.2.2.2.2.2.2.1 r70.2.2.2.2.2.2.2.2.2.2.2.2.2.2.2.2.1 r70.2.2.2.2.2.2.2.2.2.2.2.2.2.2.2.2.2.1 r70.2.2.2.2.2.2.2.2.2.2.2.2.2.2.2.2.2.2.1 r70.2.2.2.2.2.2.2.2.2.2.2.2.2.2.2.2.2.2.2.1 r70.2.2.2.2.2.2.2.2.2.2.2.2.2.2.2.2.2.2.2.2.1 r70.2.2.2.2.2.2.2.2.2.2.2.2.2.2.2.2.2.2.2.2.2.1 r70.2.2.2.2.2.2.2.2.2.2.2.2.2.2.2.2.2.2.2.2.2.2.1 r70.2.2.2.2.2.2.2.2.2.2.2.2.2.2.2.2.2.2.2.2.2.2.2.1 r70.2.2.2.2.2.2.2.2.2.2.2.2.2.2.2.2.2.2.2.2.2.2.2.2.1 r70.2.2.2.2.2.2.2.2.2.2.2.2.2.2.2.2.2.2.2.2.2.2.2.2.2.1 r70.2.2.2.2.2.2.2.2.2.2.2.2.2.2.2.2.2.2.2.2.2.2.2.2.2.2.1 r70.2.2.2.2.2.2.2.2.2.2.2.2.2.2.2.2.2.2.2.2.2.2.2.2.2.2.2.1) fun q71 =>
                            osum q71 (fun s72 =>
                              some false) (fun r73 =>
                              obind (glazierlaw13_VmStays_j5 fl r73.1 r73.2.1 r73.2.2.1 r73.2.2.2.1 r73.2.2.2.2.1 r73.2.2.2.2.2.1 r73.2.2.2.2.2.2.1 r73.2.2.2.2.2.2.2.1 r73.2.2.2.2.2.2.2.2.1 r73.2.2.2.2.2.2.2.2.2.1 r73.2.2.2.2.2.2.2.2.2.2.1 r73.2.2.2.2.2.2.2.2.2.2.2.1 r73.2.2.2.2.2.2.2.2.2.2.2.2.1 r73.2.2.2.2.2.2.2.2.2.2.2.2.2.1 r73.2.2.2.2.2.2.2.2.2.2.2.2.2.2.1 r73.2.2.2.2.2.2.2.2.2.2.2.2.2.2.2.1 r73.2.2.2.2.2.2.2.2.2.2.2.2.2.2.2.2.1 r73.2.2.2.2.2.2.2.2.2.2.2.2.2.2.2.2.2.1 r73.2.2.2.2.2.2.2.2.2.2.2.2.2.2.2.2.2.2.1 r73.2.2.2.2.2.2.2.2.2.2.2.2.2.2.2.2.2.2.2.1 r73.2.2.2.2.2.2.2.2.2.2.2.2.2.2.2.2.2.2.2.2.1 r73.2.2.2.2.2.2.2.2.2.2.2.2.2.2.2.2.2.2.2.2.2.1 r73.2.2.2.2.2.2.2.2.2.2.2.2.2.2.2.2.2.2.2.2.2.2.1 r73.2.2.2.2.2.2.2.2.2.2.2.2.2.2.2.2.2.2.2.2.2.2.2.1 r73.2.2.2.2.2.2.2.2.2.2.2.2.2.2.2.2.2.2.2.2.2.2.2.2.1 r73.2.2.2.2.2.2.2.2.2.2.2.2.2.2.2.2.2.2.2.2.2.2.2.2.2.1 r73.2.2.2.2.2.2.2.2.2.2.2.2.2.2.2.2.2.2.2.2.2.2.2.2.2.2.1 r73.2.2.2.2.2.2.2.2.2.2.2.2.2.2.2.2.2.2.2.2.2.2.2.2.2.2.2.1 r73.2.2.2.2.2.2.2.2.2.2.2.2.2.2.2.2.2.2.2.2.2.2.2.2.2.2.2.2.1) fun q74 =>
                              osum q74 (fun s75 =>
                                some false) (fun r76 =>
                                obind (glazierlaw13_VmStays_j6 fl r76.1 r76.2.1 r76.2.2.1 r76.2.2.2.1 r76.2.2.2.2.1 r76.2.2.2.2.2.1 r76.2.2.2.2.2.2.1 r76.2.2.2.2.2.2.2.1 r76.2.2.2.2.2.2.2.2.1 r76.2.2.2.2.2.2.2.2.2.1 r76.2.2.2.2.2.2.2.2.2.2.1 r76.2.2.2.2.2.2.2.2.2.2.2.1 r76.2.2.2.2.2.2.2.2.2.2.2.2.1 r76.2.2.2.2.2.2.2.2.2.2.2.2.2.1 r76.2.2.2.2.2.2.2.2.2.2.2.2.2.2.1 r76.2.2.2.2.2.2.2.2.2.2.2.2.2.2.2.1 r76.2.2.2.2.2.2.2.2.2.2.2.2.2.2.2.2.1 r76.2.2.2.2.2.2.2.2.2.2.2.2.2.2.2.2.2.1 r76.2.2.2.2.2.2.2.2.2.2.2.2.2.2.2.2.2.2.1 r76.2.2.2.2.2.2.2.2.2.2.2.2.2.2.2.2.2.2.2.1 r76.2.2.2.2.2.2.2.2.2.2.2.2.2.2.2.2.2.2.2.2.1 r76.2.2.2.2.2.2.2.2.2.2.2.2.2.2.2.2.2.2.2.2.2.1 r76.2.2.2.2.2.2.2.2.2.2.2.2.2.2.2.2.2.2.2.2.2.2.1 r76.2.2.2.2.2.2.2.2.2.2.2.2.2.2.2.2.2.2.2.2.2.2.2.1 r76.2.2.2.2.2.2.2.2.2.2.2.2.2.2.2.2.2.2.2.2.2.2.2.2.1 r76.2.2.2.2.2.2.2.2.2.2.2.2.2.2.2.2.2.2.2.2.2.2.2.2.2.1 r76.2.2.2.2.2.2.2.2.2.2.2.2.2.2.2.2.2.2.2.2.2.2.2.2.2.2.1 r76.2.2.2.2.2.2.2.2.2.2.2.2.2.2.2.2.2.2.2.2.2.2.2.2.2.2.2.1 r76.2.2.2.2.2.2.2.2.2.2.2.2.2.2.2.2.2.2.2.2.2.2.2.2.2.2.2.2.1 r76.2.2.2.2.2.2.2.2.2.2.2.2.2.2.2.2.2.2.2.2.2.2.2.2.2.2.2.2.2.1) fun q77 =>
                                osum q77 (fun s78 =>
                                  some false) (fun r79 =>
                                  obind (glazierlaw13_VmStays_j7 fl r79.1 r79.2.1 r79.2.2.1 r79.2.2.2.1 r79.2.2.2.2.1 r79.2.2.2.2.2.1 r79.2.2.2.2.2.2.1 r79.2.2.2.2.2.2.2.1 r79.2.2.2.2.2.2.2.2.1 r79.2.2.2.2.2.2.2.2.2.1 r79.2.2.2.2.2.2.2.2.2.2.1 r79.2.2.2.2.2.2.2.2.2.2.2.1 r79.2.2.2.2.2.2.2.2.2.2.2.2.1 r79.2.2.2.2.2.2.2.2.2.2.2.2.2.1 r79.2.2.2.2.2.2.2.2.2.2.2.2.2.2.1 r79.2.2.2.2.2.2.2.2.2.2.2.2.2.2.2.1 r79.2.2.2.2.2.2.2.2.2.2.2.2.2.2.2.2.1 r79.2.2.2.2.2.2.2.2.2.2.2.2.2.2.2.2.2.1 r79.2.2.2.2.2.2.2.2.2.2.2.2.2.2.2.2.2.2.1 r79.2.2.2.2.2.2.2.2.2.2.2.2.2.2.2.2.2.2.2.1 r79.2.2.2.2.2.2.2.2.2.2.2.2.2.2.2.2.2.2.2.2.1 r79.2.2.2.2.2.2.2.2.2.2.2.2.2.2.2.2.2.2.2.2.2.1 r79.2.2.2.2.2.2.2.2.2.2.2.2.2.2.2.2.2.2.2.2.2.2.1 r79.2.2.2.2.2.2.2.2.2.2.2.2.2.2.2.2.2.2.2.2.2.2.2.1 r79.2.2.2.2.2.2.2.2.2.2.2.2.2.2.2.2.2.2.2.2.2.2.2.2.1 r79.2.2.2.2.2.2.2.2.2.2.2.2.2.2.2.2.2.2.2.2.2.2.2.2.2.1 r79.2.2.2.2.2.2.2.2.2.2.2.2.2.2.2.2.2.2.2.2.2.2.2.2.2.2.1 r79.2.2.2.2.2.2.2.2.2.2.2.2.2.2.2.2.2.2.2.2.2.2.2.2.2.2.2.1 r79.2.2.2.2.2.2.2.2.2.2.2.2.2.2.2.2.2.2.2.2.2.2.2.2.2.2.2.2.1 r79.2.2.2.2.2.2.2.2.2.2.2.2.2.2.2.2.2.2.2.2.2.2.2.2.2.2.2.2.2.1 r79.2.2.2.2.2.2.2.2.2.2.2.2.2.2.2.2.2.2.2.2.2.2.2.2.2.2.2.2.2.2.1) fun q80 =>
                                  osum q80 (fun s81 =>
                                    some false) (fun r82 =>
                                    obind (glazierlaw13_VmStays_j8 fl r82.1 r82.2.1 r82.2.2.1 r82.2.2.2.1 r82.2.2.2.2.1 r82.2.2.2.2.2.1 r82.2.2.2.2.2.2.1 r82.2.2.2.2.2.2.2.1 r82.2.2.2.2.2.2.2.2.1 r82.2.2.2.2.2.2.2.2.2.1 r82.2.2.2.2.2.2.2.2.2.2.1 r82.2.2.2.2.2.2.2.2.2.2.2.1 r82.2.2.2.2.2.2.2.2.2.2.2.2.1 r82.2.2.2.2.2.2.2.2.2.2.2.2.2.1 r82.2.2.2.2.2.2.2.2.2.2.2.2.2.2.1 r82.2.2.2.2.2.2.2.2.2.2.2.2.2.2.2.1 r82.2.2.2.2.2.2.2.2.2.2.2.2.2.2.2.2.1 r82.2.2.2.2.2.2.2.2.2.2.2.2.2.2.2.2.2.1 r82.2.2.2.2.2.2.2.2.2.2.2.2.2.2.2.2.2.2.1 r82.2.2.2.2.2.2.2.2.2.2.2.2.2.2.2.2.2.2.2.1 r82.2.2.2.2.2.2.2.2.2.2.2.2.2.2.2.2.2.2.2.2.1 r82.2.2.2.2.2.2.2.2.2.2.2.2.2.2.2.2.2.2.2.2.2.1 r82.2.2.2.2.2.2.2.2.2.2.2.2.2.2.2.2.2.2.2.2.2.2.1 r82.2.2.2.2.2.2.2.2.2.2.2.2.2.2.2.2.2.2.2.2.2.2.2.1 r82.2.2.2.2.2.2.2.2.2.2.2.2.2.2.2.2.2.2.2.2.2.2.2.2.1 r82.2.2.2.2.2.2.2.2.2.2.2.2.2.2.2.2.2.2.2.2.2.2.2.2.2.1 r82.2.2.2.2.2.2.2.2.2.2.2.2.2.2.2.2.2.2.2.2.2.2.2.2.2.2.1 r82.2.2.2.2.2.2.2.2.2.2.2.2.2.2.2.2.2.2.2.2.2.2.2.2.2.2.2.1 r82.2.2.2.2.2.2.2.2.2.2.2.2.2.2.2.2.2.2.2.2.2.2.2.2.2.2.2.2.1 r82.2.2.2.2.2.2.2.2.2.2.2.2.2.2.2.2.2.2.2.2.2.2.2.2.2.2.2.2.2.1 r82.2.2.2.2.2.2.2.2.2.2.2.2.2.2.2.2.2.2.2.2.2.2.2.2.2.2.2.2.2.2.1 r82.2.2.2.2.2.2.2.2.2.2.2.2.2.2.2.2.2.2.2.2.2.2.2.2.2.2.2.2.2.2.2.1) fun q83 =>
                                    osum q83 (fun s84 =>
                                      some false) (fun r85 =>
                                      obind (glazierlaw13_VmStays_j9 fl r85.1 r85.2.1 r85.2.2.1 r85.2.2.2.1 r85.2.2.2.2.1 r85.2.2.2.2.2.1 r85.2.2.2.2.2.2.1 r85.2.2.2.2.2.2.2.1 r85.2.2.2.2.2.2.2.2.1 r85.2.2.2.2.2.2.2.2.2.1 r85.2.2.2.2.2.2.2.2.2.2.1 r85.2.2.2.2.2.2.2.2.2.2.2.1 r85.2.2.2.2.2.2.2.2.2.2.2.2.1 r85.2.2.2.2.2.2.2.2.2.2.2.2.2.1 r85.2.2.2.2.2.2.2.2.2.2.2.2.2.2.1 r85.2.2.2.2.2.2.2.2.2.2.2.2.2.2.2.1 r85.2.2.2.2.2.2.2.2.2.2.2.2.2.2.2.2.1 r85.2.2.2.2.2.2.2.2.2.2.2.2.2.2.2.2.2.1 r85.2.2.2.2.2.2.2.2.2.2.2.2.2.2.2.2.2.2.1 r85.2.2.2.2.2.2.2.2.2.2.2.2.2.2.2.2.2.2.2.1 r85.2.2.2.2.2.2.2.2.2.2.2.2.2.2.2.2.2.2.2.2.1 r85.2.2.2.2.2.2.2.2.2.2.2.2.2.2.2.2.2.2.2.2.2.1 r85.2.2.2.2.2.2.2.2.2.2.2.2.2.2.2.2.2.2.2.2.2.2.1 r85.2.2.2.2.2.2.2.2.2.2.2.2.2.2.2.2.2.2.2.2.2.2.2.1 r85.2.2.2.2.2.2.2.2.2.2.2.2.2.2.2.2.2.2.2.2.2.2.2.2.1 r85.2.2.2.2.2.2.2.2.2.2.2.2.2.2.2.2.2.2.2.2.2.2.2.2.2.1 r85.2.2.2.2.2.2.2.2.2.2.2.2.2.2.2.2.2.2.2.2.2.2.2.2.2.2.1 r85.2.2.2.2.2.2.2.2.2.2.2.2.2.2.2.2.2.2.2.2.2.2.2.2.2.2.2.1 r85.2.2.2.2.2.2.2.2.2.2.2.2.2.2.2.2.2.2.2.2.2.2.2.2.2.2.2.2.1 r85.2.2.2.2.2.2.2.2.2.2.2.2.2.2.2.2.2.2.2.2.2.2.2.2.2.2.2.2.2.1 r85.2.2.2.2.2.2.2.2.2.2.2.2.2.2.2.2.2.2.2.2.2.2.2.2.2.2.2.2.2.2.1 r85.2.2.2.2.2.2.2.2.2.2.2.2.2.2.2.2.2.2.2.2.2.2.2.2.2.2.2.2.2.2.2.1 r85.2.2.2.2.2.2.2.2.2.2.2.2.2.2.2.2.2.2.2.2.2.2.2.2.2.2.2.2.2.2.2.2.1) fun q86 =>
                                      osum q86 (fun s87 =>
                                        some false) (fun r88 =>
                                        obind (vm_Run fl r88.2.1 (0, (0, [])) (r88.2.2.2.2.2.2.2.2.2.2.2.2.2.2.2.2.2.2.2.2.2.2.2.2.2.2.1, (r88.2.2.2.2.2.2.2.2.2.2.2.2.2.2.2.2.2.2.2.2.2.2.2.2.2.2.2.1, (r88.2.2.2.2.2.2.2.2.2.2.2.2.2.2.2.2.2.2.2.2.2.2.2.2.2.2.2.2.1, (r88.2.2.2.2.2.2.2.2.2.2.2.2.2.2.2.2.2.2.2.2.2.2.2.2.2.2.2.2.2.1, (r88.2.2.2.2.2.2.2.2.2.2.2.2.2.2.2.2.2.2.2.2.2.2.2.2.2.2.2.2.2.2.1, (r88.2.2.2.2.2.2.2.2.2.2.2.2.2.2.2.2.2.2.2.2.2.2.2.2.2.2.2.2.2.2.2.1, (r88.2.2.2.2.2.2.2.2.2.2.2.2.2.2.2.2.2.2.2.2.2.2.2.2.2.2.2.2.2.2.2.2.1, r88.2.2.2.2.2.2.2.2.2.2.2.2.2.2.2.2.2.2.2.2.2.2.2.2.2.2.2.2.2.2.2.2.2.1)))))))) fun q89 =>
                                        bite r88.1 (
                                          bnd (F.eq q89.2.2 0) fun v90 =>
                                          bite v90 (
                                            bnd (F.both (F.eq q89.1.1 r88.2.2.2.2.2.2.2.2.2.2.1) (F.both (F.eq q89.1.2.1 r88.2.2.2.2.2.2.2.2.2.2.2.1) (F.both (F.eq q89.1.2.2.1 r88.2.2.2.2.2.2.2.2.2.2.2.2.1) (F.both (F.eq q89.1.2.2.2.1 r88.2.2.2.2.2.2.2.2.2.2.2.2.2.1) (F.both (F.eq q89.1.2.2.2.2.1 r88.2.2.2.2.2.2.2.2.2.2.2.2.2.2.1) (F.both (F.eq q89.1.2.2.2.2.2.1 r88.2.2.2.2.2.2.2.2.2.2.2.2.2.2.2.1) (F.both (F.eq q89.1.2.2.2.2.2.2.1 r88.2.2.2.2.2.2.2.2.2.2.2.2.2.2.2.2.1) (F.eq q89.1.2.2.2.2.2.2.2 r88.2.2.2.2.2.2.2.2.2.2.2.2.2.2.2.2.2.1)))))))) fun v91 =>
                                            some v91) (
                                            some false)) (
                                          some false)))))))))))))))))))) (
    bnd (F.len x1) fun v92 =>
    bnd (F.gt v92 16) fun v93 =>
    bite v93 (
      bgd (F.cutOk x1 0 16) (
        bnd (F.cut x1 0 16) fun v94 =>
        obind (glazierlaw13_straight fl x0) fun q95 =>
        obind (glazierlaw13_straight fl v94) fun q96 =>
        obind (vm_Run fl q95 (0, (0, [])) x2) fun q97 =>
        obind (vm_Run fl q96 (0, (0, [])) q97.1) fun q98 =>
        bgd (F.appOk (α := Unit) 16 [] q95) (
          bgd (F.appOk 16 (F.app [] q95) q96) (
            obind (vm_Run fl (F.app (F.app [] q95) q96) (0, (0, [])) x2) fun q99 =>
            bnd (F.ne q97.2.2 0) fun v100 =>
            bite v100 (
              some false) (
              bnd (F.ne q98.2.2 0) fun v101 =>
              bite v101 (
                some false) (
                bnd (F.ne q99.2.2 0) fun v102 =>
                bite v102 (
                  some false) (
                  bnd (F.not (F.both (F.eq q98.1.1 q99.1.1) (F.both (F.eq q98.1.2.1 q99.1.2.1) (F.both (F.eq q98.1.2.2.1 q99.1.2.2.1) (F.both (F.eq q98.1.2.2.2.1 q99.1.2.2.2.1) (F.both (F.eq q98.1.2.2.2.2.1 q99.1.2.2.2.2.1) (F.both (F.eq q98.1.2.2.2.2.2.1 q99.1.2.2.2.2.2.1) (F.both (F.eq q98.1.2.2.2.2.2.2.1 q99.1.2.2.2.2.2.2.1) (F.eq q98.1.2.2.2.2.2.2.2 q99.1.2.2.2.2.2.2.2))))))))) fun v103 =>
                  bite v103 (
                    some false) (
                    bnd (F.add .i64 q97.2.1 q98.2.1) fun v104 =>
                    bnd (F.ne v104 q99.2.1) fun v105 =>
                    bite v105 (
                      some false) (
                      bnd (F.len q95) fun v106 =>
                      bnd (F.ne q97.2.1 v106) fun v107 =>
                      bite v107 (
                        some false) (
                        obind (glazierlaw13_VmStays_l1 fl fl q3 q95 0 x2.1 x2.2.1 x2.2.2.1 x2.2.2.2.1 x2.2.2.2.2.1 x2.2.2.2.2.2.1 x2.2.2.2.2.2.2.1 x2.2.2.2.2.2.2.2 q97.1.1 q97.1.2.1 q97.1.2.2.1 q97.1.2.2.2.1 q97.1.2.2.2.2.1 q97.1.2.2.2.2.2.1 q97.1.2.2.2.2.2.2.1 q97.1.2.2.2.2.2.2.2 false false false false false false false false) fun q108 =>
                        obind (glazierlaw13_VmStays_j2 fl q108.1 q108.2.1 q108.2.2.1 q108.2.2.2.1 q108.2.2.2.2.1 q108.2.2.2.2.2.1 q108.2.2.2.2.2.2.1 q108.2.2.2.2.2.2.2.1 q108.2.2.2.2.2.2.2.2.1 q108.2.2.2.2.2.2.2.2.2.1 q108.2.2.2.2.2.2.2.2.2.2.1 q108.2.2.2.2.2.2.2.2.2.2.2.1 q108.2.2.2.2.2.2.2.2.2.2.2.2.1 q108.2.2.2.2.2.2.2.2.2.2.2.2.2.1 q108.2.2.2.2.2.2.2.2.2.2.2.2.2.2.1 q108.2.2.2.2.2.2.2.2.2.2.2.2.2.2.2.1 q108.2.2.2.2.2.2.2.2.2.2.2.2.2.2.2.2.1 q108.2.2.2.2.2.2.2.2.2.2.2.2.2.2.2.2.2.1 q108.2.2.2.2.2.2.2.2.2.2.2.2.2.2.2.2.2.2.1 q108.2.2.2.2.2.2.2.2.2.2.2.2.2.2.2.2.2.2.2.1 q108.2.2.2.2.2.2.2.2.2.2.2.2.2.2.2.2.2.2.2.2.1 q108.2.2.2.2.2.2.2.2.2.2.2.2.2.2.2.2.2.2.2.2.2.1 q108.2.2.2.2.2.2.2.2.2.2.2.2.2.2.2.2.2.2.2.2.2.2.1 q108.2.2.2.2.2.2.2.2.2.2.2.2.2.2.2.2.2.2.2.2.2.2.2.1 q108.2.2.2.2.2.2.2.2.2.2.2.2.2.2.2.2.2.2.2.2.2.2.2.2.1 q108.2.2.2.2.2.2.2.2.2.2.2.2.2.2.2.2.2.2.2.2.2.2.2.2.2.1) fun q109 =>
                        osum q109 (fun s110 =>
                          some false) (fun r111 =>
                          obind (glazierlaw13_VmStays_j3 fl r111.1 r111.2.1 r111.2.2.1 r111.2.2.2.1 r111.2.2.2.2.1 r111.2.2.2.2.2.1 r111.2.2.2.2.2.2.1 r111.2.2.2.2.2.2.2.1 r111.2.2.2.2.2.2.2.2.1 r111.2.2.2.2.2.2.2.2.2.1 r111.2.2.2.2.2.2.2.2.2.2.1 r111.2.2.2.2.2.2.2.2.2.2.2.1 r111.2.2.2.2.2.2.2.2.2.2.2.2.1 r111.2.2.2.2.2.2.2.2.2.2.2.2.2.1 r111.2.2.2.2.2.2.2.2.2.2.2.2.2.2.1 r111.2.2.2.2.2.2.2.2.2.2.2.2.2.2.2.1 r111.2.2.2.2.2.2.2.2.2.2.2.2.2.2.2.2.1 r111.2.2.2.2.2.2.2.2.2.2.2.2.2.2.2.2.2.1 r111.2.2.2.2.2.2.2.2.2.2.2.2.2.2.2.2.2.2.1 r111.2.2.2.2.2.2.2.2.2.2.2.2.2.2.2.2.2.2.2.1 r111.2.2.2.2.2.2.2.2.2.2.2.2.2.2.2.2.2.2.2.2.1 r111.2.2.2.2.2.2.2.2.2.2.2.2.2.2.2.2.2.2.2.2.2.1 r111.2.2.2.2.2.2.2.2.2.2.2.2.2.2.2.2.2.2.2.2.2.2.1 r111.2.2.2.2.2.2.2.2.2.2.2.2.2.2.2.2.2.2.2.2.2.2.2.1 r111.2.2.2.2.2.2.2.2.2.2.2.2.2.2.2.2.2.2.2.2.2.2.2.2.1 r111.2.2.2.2.2.2.2.2.2.2.2.2.2.2.2.2.2.2.2.2.2.2.2.2.2.1 r111.2.2.2.2.2.2.2.2.2.2.2.2.2.2.2.2.2.2.2.2.2.2.2.2.2.2.1) fun q112 =>
                          osum q112 (fun s113 =>
                            some false) (fun r114 =>
                            obind (glazierlaw13_VmStays_j4 fl r114.1 r114.2.1 r114.2.2.1 r114.2.2.2.1 r114.2.2.2.2.1 r114.2.2.2.2.2.1 r114.2.2.2.2.2.2.1 r114.2.2.2.2.2.2.2.1 r114.2.2.2.2.2.2.2.2.1 r114.2.2.2.2.2.2.2.2.2.1 r114.2.2.2.2.2.2.2.2.2.2.1 r114.2.2.2.2.2.2.2.2.2.2.2.1 r114.2.2.2.2.2.2.2.2.2.2.2.2.1 r114.2.2.2.2.2.2.2.2.2.2.2.2.2.1 r114.2.2.2.2.2.2.2.2.2.2.2.2.2.2.1 r114.2.2.2.2.2.2.2.2.2.2.2.2.2.2.2.1 r114.2.2.2.2.2.2.2.2.2.2.2.2.2.2.2.2.1 r114.2.2.2.2.2.2.2.2.2.2.2.2.2.2.2.2.2.1 r114.2.2.2.2.2.2.2.2.2.2.2.2.2.2.2.2.2.2.1 r114.2.2.2.2.2.2.2.2.2.2.2.2.2.2.2.2.2.2.2.1 r114.2.2.2.2.2.2.2.2.2.2.2.2.2.2.2.2.2.2.2.2.1 r114.2.2.2.2.2.2.2.2.2.2.2.2.2.2.2.2.2.2.2.2.2.1 r114.2.2.2.2.2.2.2.2.2.2.2.2.2.2.2.2.2.2.2.2.2.2.1 r114.2.2.2.2.2.2.2.2.2.2.2.2.2.2.2.2.2.2.2.2.2.2.2.1 r114.2.2.2.2.2.2.2.2.2.2.2.2.2.2.2.2.2.2.2.2.2.2.2.2.1 r114.2.2.2.2.2.2.2.2.2.2.2.2.2.2.2.2.2.2.2.2.2.2.2.2.2.1 r114.2.2.2.2.2.2.2.2.2.2.2.2.2.2.2.2.2.2.2.2.2.2.2.2.2.2.1 r114.2.2.2.2.2.2.2.2.2.2.2.2.2.2.2.2.2.2.2.2.2.2.2.2.2.2.2.1) fun q115 =>
                            osum q115 (fun s116 =>
                              some false) (fun r117 =>
                              obind (glazierlaw13_VmStays_j5 fl r117.1 r117.2.1 r117.2.2.1 r117.2.2.2.1 r117.2.2.2.2.1 r117.2.2.2.2.2.1 r117.2.2.2.2.2.2.1 r117.2.2.2.2.2.2.2.1 r117.2.2.2.2.2.2.2.2.1 r117.2.2.2.2.2.2.2.2.2.1 r117.2.2.2.2.2.2.2.2.2.2.1 r117.2.2.2.2.2.2.2.2.2.2.2.1 r117.2.2.2.2.2.2.2.2.2.2.2.2.1 r117.2.2.2.2.2.2.2.2.2.2.2.2.2.1 r117.2.2.2.2.2.2.2.2.2.2.2.2.2.2.1 r117.2.2.2.2.2.2.2.2.2.2.2.2.2.2.2.1 r117.2.2.2.2.2.2.2.2.2.2.2.2.2.2.2.2.1 r117.2.2.2.2.2.2.2.2.2.2.2.2.2.2.2.2.2.1 r117.2.2.2.2.2.2.2.2.2.2.2.2.2.2.2.2.2.2.1 r117.2.2.2.2.2.2.2.2.2.2.2.2.2.2.2.2.2.2.2.1 r117.2.2.2.2.2.2.2.2.2.2.2.2.2.2.2.2.2.2.2.2.1 r117.2.2.2.2.2.2.2.2.2.2.2.2.2.2.2.2.2.2.2.2.2.1 r117.2.2.2.2.2.2.2.2.2.2.2.2.2.2.2.2.2.2.2.2.2.2.1 r117.2.2.2.2.2.2.2.2.2.2.2.2.2.2.2.2.2.2.2.2.2.2.2.1 r117.2.2.2.2.2.2.2.2.2.2.2.2.2.2.2.2.2.2.2.2.2.2.2.2.1 r117.2.2.2.2.2.2.2.2.2.2.2.2.2.2.2.2.2.2.2.2.2.2.2.2.2.1 r117.2.2.2.2.2.2.2.2.2.2.2.2.2.2.2.2.2.2.2.2.2.2.2.2.2.2.1 r117.2.2.2.2.2.2.2.2.2.2.2.2.2.2.2.2.2.2.2.2.2.2.2.2.2.2.2.1 r117.2.2.2.2.2.2.2.2.2.2.2.2.2.2.2.2.2.2.2.2.2.2.2.2.2.2.2.2.1) fun q118 =>
                              osum q118 (fun s119 =>
                                some false) (fun r120 =>
                                obind (glazierlaw13_VmStays_j6 fl r120.1 r120.2.1 r120.2.2.1 r120.2.2.2.1 r120.2.2.2.2.1 r120.2.2.2.2.2.1 r120.2.2.2.2.2.2.1 r120.2.2.2.2.2.2.2.1 r120.2.2.2.2.2.2.2.2.1 r120.2.2.2.2.2.2.2.2.2.1 r120.2.2.2.2.2.2.2.2.2.2.1 r120.2.2.2.2.2.2.2.2.2.2.2.1 r120.2.2.2.2.2.2.2.2.2.2.2.2.1 r120.2.2.2.2.2.2.2.2.2.2.2.2.2.1 r120.2.2.2.2.2.2.2.2.2.2.2.2.2.2.1 r120.2.2.2.2.2.2.2.2.2.2.2.2.2.2.2.1 r120.2.2.2.2.2.2.2.2.2.2.2.2.2.2.2.2.1 r120.2.2.2.2.2.2.2.2.2.2.2.2.2.2.2.2.2.1 r120.2.2.2.2.2.2.2.2.2.2.2.2.2.2.2.2.2.2.1 r120.2.2.2.2.2.2.2.2.2.2.2.2.2.2.2.2.2.2.2.1 r120.2.2.2.2.2.2.2.2.2.2.2.2.2.2.2.2.2.2.2.2.1 r120.2.2.2.2.2.2.2.2.2.2.2.2.2.2.2.2.2.2.2.2.2.1 r120.2.2.2.2.2.2.2.2.2.2.2.2.2.2.2.2.2.2.2.2.2.2.1 r120.2.2.2.2.2.2.2.2.2.2.2.2.2.2.2.2.2.2.2.2.2.2.2.1 r120.2.2.2.2.2.2.2.2.2.2.2.2.2.2.2.2.2.2.2.2.2.2.2.2.1 r120.2.2.2.2.2.2.2.2.2.2.2.2.2.2.2.2.2.2.2.2.2.2.2.2.2.1 r120.2.2.2.2.2.2.2.2.2.2.2.2.2.2.2.2.2.2.2.2.2.2.2.2.2.2.1 r120.2.2.2.2.2.2.2.2.2.2.2.2.2.2.2.2.2.2.2.2.2.2.2.2.2.2.2.1 r120.2.2.2.2.2.2.2.2.2.2.2.2.2.2.2.2.2.2.2.2.2.2.2.2.2.2.2.2.1 r120.2.2.2.2.2.2.2.2.2.2.2.2.2.2.2.2.2.2.2.2.2.2.2.2.2.2.2.2.2.1) fun q121 =>
                                osum q121 (fun s122 =>
                                  some false) (fun r123 =>
                                  obind (glazierlaw13_VmStays_j7 fl r123.1 r123.2.1 r123.2.2.1 r123.2.2.2.1 r123.2.2.2.2.1 r123.2.2.2.2.2.1 r123.2.2.2.2.2.2.1 r123.2.2.2.2.2.2.2.1 r123.2.2.2.2.2.2.2.2.1 r123.2.2.2.2.2.2.2.2.2.1 r123.2.2.2.2.2.2.2.2.2.2.1 r123.2.2.2.2.2.2.2.2.2.2.2.1 r123.2.2.2.2.2.2.2.2.2.2.2.2.1 r123.2.2.2.2.2.2.2.2.2.2.2.2.2.1 r123.2.2.2.2.2.2.2.2.2.2.2.2.2.2.1 r123.2.2.2.2.2.2.2.2.2.2.2.2.2.2.2.1 r123.2.2.2.2.2.2.2.2.2.2.2.2.2.2.2.2.1 r123.2.2.2.2.2.2.2.2.2.2.2.2.2.2.2.2.2.1 r123.2.2.2.2.2.2.2.2.2.2.2.2.2.2.2.2.2.2.1 r123.2.2.2.2.2.2.2.2.2.2.2.2.2.2.2.2.2.2.2.1 r123.2.2.2.2.2.2.2.2.2.2.2.2.2.2.2.2.2.2.2.2.1 r123.2.2.2.2.2.2.2.2.2.2.2.2.2.2.2.2.2.2.2.2.2.1 r123.2.2.2.2.2.2.2.2.2.2.2.2.2.2.2.2.2.2.2.2.2.2.1 r123.2.2.2.2.2.2.2.2.2.2.2.2.2.2.2.2.2.2.2.2.2.2.2.1 r123.2.2.2.2.2.2.2.2.2.2.2.2.2.2.2.2.2.2.2.2.2.2.2.2.1 r123.2.2.2.2.2.2.2.2.2.2.2.2.2.2.2.2.2.2.2.2.2.2.2.2.2.1 r123.2.2.2.2.2.2.2.2.2.2.2.2.2.2.2.2.2.2.2.2.2.2.2.2.2.2.1 r123.2.2.2.2.2.2.2.2.2.2.2.2.2.2.2.2.2.2.2.2.2.2.2.2.2.2.2.1 r123.2.2.2.2.2.2.2.2.2.2.2.2.2.2.2.2.2.2.2.2.2.2.2.2.2.2.2.2.1 r123.2.2.2.2.2.2.2.2.2.2.2.2.2.2.2.2.2.2.2.2.2.2.2.2.2.2.2.2.2.1 r123.2.2.2.2.2.2.2.2.2.2.2.2.2.2.2.2.2.2.2.2.2.2.2.2.2.2.2.2.2.2.1) fun q124 =>
                                  osum q124 (fun s125 =>
                                    some false) (fun r126 =>
                                    obind (glazierlaw13_VmStays_j8 fl r126.1 r126.2.1 r126.2.2.1 r126.2.2.2.1 r126.2.2.2.2.1 r126.2.2.2.2.2.1 r126.2.2.2.2.2.2.1 r126.2.2.2.2.2.2.2.1 r126.2.2.2.2.2.2.2.2.1 r126.2.2.2.2.2.2.2.2.2.1 r126.2.2.2.2.2.2.2.2.2.2.1 r126.2.2.2.2.2.2.2.2.2.2.2.1 r126.2.2.2.2.2.2.2.2.2.2.2.2.1 r126.2.2.2.2.2.2.2.2.2.2.2.2.2.1 r126.2.2.2.2.2.2.2.2.2.2.2.2.2.2.1 r126.2.2.2.2.2.2.2.2.2.2.2.2.2.2.2.1 r126.2.2.2.2.2.2.2.2.2.2.2.2.2.2.2.2.1 r126.2.2.2.2.2.2.2.2.2.2.2.2.2.2.2.2.2.1 r126.2.2.2.2.2.2.2.2.2.2.2.2.2.2.2.2.2.2.1 r126.2.2.2.2.2.2.2.2.2.2.2.2.2.2.2.2.2.2.2.1 r126.2.2.2.2.2.2.2.2.2.2.2.2.2.2.2.2.2.2.2.2.1 r126.2.2.2.2.2.2.2.2.2.2.2.2.2.2.2.2.2.2.2.2.2.1 r126.2.2.2.2.2.2.2.2.2.2.2.2.2.2.2.2.2.2.2.2.2.2.1 r126.2.2.2.2.2.2.2.2.2.2.2.2.2.2.2.2.2.2.2.2.2.2.2.1 r126.2.2.2.2.2.2.2.2.2.2.2.2.2.2.2.2.2.2.2.2.2.2.2.2.1 r126.2.2.2.2.2.2.2.2.2.2.2.2.2.2.2.2.2.2.2.2.2.2.2.2.2.1 r126.2.2.2.2.2.2.2.2.2.2.2.2.2.2.2.2.2.2.2.2.2.2.2.2.2.2.1 r126.2.2.2.2.2.2.2.2.2.2.2.2.2.2.2.2.2.2.2.2.2.2.2.2.2.2.2.1 r126.2.2.2.2.2.2.2.2.2.2.2.2.2.2.2.2.2.2.2.2.2.2.2.2.2.2.2.2.1 r126.2.2.2.2.2.2.2.2.2.2.2.2.2.2.2.2.2.2.2.2.2.2.2.2.2.2.2.2.2.1 r126.2.2.2.2.2.2.2.2.2.2.2.2.2.2.2.2.2.2.2.2.2.2.2.2.2.2.2.2.2.2.1 r126.2.2.2.2.2.2.2.2.2.2.2.2.2.2.2.2.2.2.2.2.2.2.2.2.2.2.2.2.2.2.2.1) fun q127 =>
                                    osum q127 (fun s128 =>
                                      some false) (fun r129 =>
                                      obind (glazierlaw13_VmStays_j9 fl r129.1 r129.2.1 r129.2.2.1 r129.2.2.2.1 r129.2.2.2.2.1 r129.2.2.2.2.2.1 r129.2.2.2.2.2.2.1 r129.2.2.2.2.2.2.2.1 r129.2.2.2.2.2.2.2.2.1 r129.2.2.2.2.2.2.2.2.2.1 r129.2.2.2.2.2.2.2.2.2.2.1 r129.2.2.2.2.2.2.2.2.2.2.2.1 r129.2.2.2.2.2.2.2.2.2.2.2.2.1 r129.2.2.2.2.2.2.2.2.2.2.2.2.2.1 r129.2.2.2.2.2.2.2.2.2.2.2.2.2.2.1 r129.2.2.2.2.2.2.2.2.2.2.2.2.2.2.2.1 r129.2.2.2.2.2.2.2.2.2.2.2.2.2.2.2.2.1 r129.2.2.2.2.2.2.2.2.2.2.2.2.2.2.2.2.2.1 r129.2.2.2.2.2.2.2.2.2.2.2.2.2.2.2.2.2.2.1 r129.2.2.2.2.2.2.2.2.2.2.2.2.2.2.2.2.2.2.2.1 r129.2.2.2.2.2.2.2.2.2.2.2.2.2.2.2.2.2.2.2.2.1 r129.2.2.2.2.2.2.2.2.2.2.2.2.2.2.2.2.2.2.2.2.2.1 r129.2.2.2.2.2.2.2.2.2.2.2.2.2.2.2.2.2.2.2.2.2.2.1 r129.2.2.2.2.2.2.2.2.2.2.2.2.2.2.2.2.2.2.2.2.2.2.2.1 r129.2.2.2.2.2.2.2.2.2.2.2.2.2.2.2.2.2.2.2.2.2.2.2.2.1 r129.2.2.2.2.2.2.2.2.2.2.2.2.2.2.2.2.2.2.2.2.2.2.2.2.2.1 r129.2.2.2.2.2.2.2.2.2.2.2.2.2.2.2.2.2.2.2.2.2.2.2.2.2.2.1 r129.2.2.2.2.2.2.2.2.2.2.2.2.2.2.2.2.2.2.2.2.2.2.2.2.2.2.2.1 r129.2.2.2.2.2.2.2.2.2.2.2.2.2.2.2.2.2.2.2.2.2.2.2.2.2.2.2.2.1 r129.2.2.2.2.2.2.2.2.2.2.2.2.2.2.2.2.2.2.2.2.2.2.2.2.2.2.2.2.2.1 r129.2.2.2.2.2.2.2.2.2.2.2.2.2.2.2.2.2.2.2.2.2.2.2.2.2.2.2.2.2.2.1 r129.2.2.2.2.2.2.2.2.2.2.2.2.2.2.2.2.2.2.2.2.2.2.2.2.2.2.2.2.2.2.2.1 r129.2.2.2.2.2.2.2.2.2.2.2.2.2.2.2.2.2.2.2.2.2.2.2.2.2.2.2.2.2.2.2.2.1) fun q130 =>
                                      osum q130 (fun s131 =>
                                        some false) (fun r132 =>
                                        obind (vm_Run fl r132.2.1 (0, (0, [])) (r132.2.2.2.2.2.2.2.2.2.2.2.2.2.2.2.2.2.2.2.2.2.2.2.2.2.2.1, (r132.2.2.2.2.2.2.2.2.2.2.2.2.2.2.2.2.2.2.2.2.2.2.2.2.2.2.2.1, (r132.2.2.2.2.2.2.2.2.2.2.2.2.2.2.2.2.2.2.2.2.2.2.2.2.2.2.2.2.1, (r132.2.2.2.2.2.2.2.2.2.2.2.2.2.2.2.2.2.2.2.2.2.2.2.2.2.2.2.2.2.1, (r132.2.2.2.2.2.2.2.2.2.2.2.2.2.2.2.2.2.2.2.2.2.2.2.2.2.2.2.2.2.2.1, (r132.2.2.2.2.2.2.2.2.2.2.2.2.2.2.2.2.2.2.2.2.2.2.2.2.2.2.2.2.2.2.2.1, (r132.2.2.2.2.2.2.2.2.2.2.2.2.2.2.2.2.2.2.2.2.2.2.2.2.2.2.2.2.2.2.2.2.1, r132.2.2.2.2.2.2.2.2.2.2.2.2.2.2.2.2.2.2.2.2.2.2.2.2.2.2.2.2.2.2.2.2.2.1)))))))) fun q133 =>
                                        bite r132.1 (
                                          bnd (F.eq q133.2.2 0) fun v134 =>
                                          bite v134 (
                                            bnd (F.both (F.eq q133.1.1 r132.2.2.2.2.2.2.2.2.2.2.1) (F.both (F.eq q133.1.2.1 r132.2.2.2.2.2.2.2.2.2.2.2.1) (F.both (F.eq q133.1.2.2.1 r132.2.2.2.2.2.2.2.2.2.2.2.2.1) (F.both (F.eq q133.1.2.2.2.1 r132.2.2.2.2.2.2.2.2.2.2.2.2.2.1) (F.both (F.eq q133.1.2.2.2.2.1 r132.2.2.2.2.2.2.2.2.2.2.2.2.2.2.1) (F.both (F.eq q133.1.2.2.2.2.2.1 r132.2.2.2.2.2.2.2.2.2.2.2.2.2.2.2.1) (F.both (F.eq q133.1.2.2.2.2.2.2.1 r132.2.2.2.2.2.2.2.2.2.2.2.2.2.2.2.2.1) (F.eq q133.1.2.2.2.2.2.2.2 r132.2.2.2.2.2.2.2.2.2.2.2.2.2.2.2.2.2.1)))))))) fun v135 =>
                                            some v135) (
                                            some false)) (
                                          some false))))))))))))))))))) (
      obind (glazierlaw13_straight fl x0) fun q136 =>
      obind (glazierlaw13_straight fl x1) fun q137 =>
      obind (vm_Run fl q136 (0, (0, [])) x2) fun q138 =>
      obind (vm_Run fl q137 (0, (0, [])) q138.1) fun q139 =>
      bgd (F.appOk (α := Unit) 16 [] q136) (
        bgd (F.appOk 16 (F.app [] q136) q137) (
          obind (vm_Run fl (F.app (F.app [] q136) q137) (0, (0, [])) x2) fun q140 =>
          bnd (F.ne q138.2.2 0) fun v141 =>
          bite v141 (
            some false) (
            bnd (F.ne q139.2.2 0) fun v142 =>
            bite v142 (
              some false) (
              bnd (F.ne q140.2.2 0) fun v143 =>
              bite v143 (
                some false) (
                bnd (F.not (F.both (F.eq q139.1.1 q140.1.1) (F.both (F.eq q139.1.2.1 q140.1.2.1) (F.both (F.eq q139.1.2.2.1 q140.1.2.2.1) (F.both (F.eq q139.1.2.2.2.1 q140.1.2.2.2.1) (F.both (F.eq q139.1.2.2.2.2.1 q140.1.2.2.2.2.1) (F.both (F.eq q139.1.2.2.2.2.2.1 q140.1.2.2.2.2.2.1) (F.both (F.eq q139.1.2.2.2.2.2.2.1 q140.1.2.2.2.2.2.2.1) (F.eq q139.1.2.2.2.2.2.2.2 q140.1.2.2.2.2.2.2.2))))))))) fun v144 =>
                bite v144 (
                  some false) (
                  bnd (F.add .i64 q138.2.1 q139.2.1) fun v145 =>
                  bnd (F.ne v145 q140.2.1) fun v146 =>
                  bite v146 (
                    some false) (
                    bnd (F.len q136) fun v147 =>
                    bnd (F.ne q138.2.1 v147) fun v148 =>
                    bite v148 (
                      some false) (
                      obind (glazierlaw13_VmStays_l1 fl fl q3 q136 0 x2.1 x2.2.1 x2.2.2.1 x2.2.2.2.1 x2.2.2.2.2.1 x2.2.2.2.2.2.1 x2.2.2.2.2.2.2.1 x2.2.2.2.2.2.2.2 q138.1.1 q138.1.2.1 q138.1.2.2.1 q138.1.2.2.2.1 q138.1.2.2.2.2.1 q138.1.2.2.2.2.2.1 q138.1.2.2.2.2.2.2.1 q138.1.2.2.2.2.2.2.2 false false false false false false false false) fun q149 =>
                      obind (glazierlaw13_VmStays_j2 fl q149.1 q149.2.1 q149.2.2.1 q149.2.2.2.1 q149.2.2.2.2.1 q149.2.2.2.2.2.1 q149.2.2.2.2.2.2.1 q149.2.2.2.2.2.2.2.1 q149.2.2.2.2.2.2.2.2.1 q149.2.2.2.2.2.2.2.2.2.1 q149.2.2.2.2.2.2.2.2.2.2.1 q149.2.2.2.2.2.2.2.2.2.2.2.1 q149.2.2.2.2.2.2.2.2.2.2.2.2.1 q149.2.2.2.2.2.2.2.2.2.2.2.2.2.1 q149.2.2.2.2.2.2.2.2.2.2.2.2.2.2.1 q149.2.2.2.2.2.2.2.2.2.2.2.2.2.2.2.1 q149.2.2.2.2.2.2.2.2.2.2.2.2.2.2.2.2.1 q149.2.2.2.2.2.2.2.2.2.2.2.2.2.2.2.2.2.1 q149.2.2.2.2.2.2.2.2.2.2.2.2.2.2.2.2.2.2.1 q149.2.2.2.2.2.2.2.2.2.2.2.2.2.2.2.2.2.2.2.1 q149.2.2.2.2.2.2.2.2.2.2.2.2.2.2.2.2.2.2.2.2.1 q149.2.2.2.2.2.2.2.2.2.2.2.2.2.2.2.2.2.2.2.2.2.1 q149.2.2.2.2.2.2.2.2.2.2.2.2.2.2.2.2.2.2.2.2.2.2.1 q149.2.2.2.2.2.2.2.2.2.2.2.2.2.2.2.2.2.2.2.2.2.2.2.1 q149.2.2.2.2.2.2.2.2.2.2.2.2.2.2.2.2.2.2.2.2.2.2.2.2.1 q149.2.2.2.2.2.2.2.2.2.2.2.2.2.2.2.2.2.2.2.2.2.2.2.2.2.1) fun q150 =>
                      osum q150 (fun s151 =>
                        some false) (fun r152 =>
                        obind (glazierlaw13_VmStays_j3 fl r152.1 r152.2.1 r152.2.2.1 r152.2.2.2.1 r152.2.2.2.2.1 r152.2.2.2.2.2.1 r152.2.2.2.2.2.2.1 r152.2.2.2.2.2.2.2.1 r152.2.2.2.2.2.2.2.2.1 r152.2.2.2.2.2.2.2.2.2.1 r152.2.2.2.2.2.2.2.2.2.2.1 r152.2.2.2.2.2.2.2.2.2.2.2.1 r152.2.2.2.2.2.2.2.2.2.2.2.2.1 r152.2.2.2.2.2.2.2.2.2.2.2.2.2.1 r152.2.2.2.2.2.2.2.2.2.2.2.2.2.2.1 r152.2.2.2.2.2.2.2.2.2.2.2.2.2.2.2.1 r152.2.2.2.2.2.2.2.2.2.2.2.2.2.2.2.2.1 r152.2.2.2.2.2.2.2.2.2.2.2.2.2.2.2.2.2.1 r152.2.2.2.2.2.2.2.2.2.2.2.2.2.2.2.2.2.2.1 r152.2.2.2.2.2.2.2.2.2.2.2.2.2.2.2.2.2.2.2.1 r152.2.2.2.2.2.2.2.2.2.2.2.2.2.2.2.2.2.2.2.2.1 r152.2.2.2.2.2.2.2.2.2.2.2.2.2.2.2.2.2.2.2.2.2.1 r152.2.2.2.2.2.2.2.2.2.2.2.2.2.2.2.2.2.2.2.2.2.2.1 r152.2.2.2.2.2.2.2.2.2.2.2.2.2.2.2.2.2.2.2.2.2.2.2.1 r152.2.2.2.2.2.2.2.2.2.2.2.2.2.2.2.2.2.2.2.2.2.2.2.2.1 r152.2.2.2.2.2.2.2.2.2.2.2.2.2.2.2.2.2.2.2.2.2.2.2.2.2.1 r152.2.2.2.2.2.2.2.2.2.2.2.2.2.2.2.2.2.2.2.2.2.2.2.2.2.2.1) fun q153 =>
                        osum q153 (fun s154 =>
                          some false) (fun r155 =>
                          obind (glazierlaw13_VmStays_j4 fl r155.1 r155.2.1 r155.2.2.1 r155.2.2.2.1 r155.2.2.2.2.1 r155.2.2.2.2.2.1 r155.2.2.2.2.2.2.1 r155.2.2.2.2.2.2.2.1 r155.2.2.2.2.2.2.2.2.1 r155.2.2.2.2.2.2.2.2.2.1 r155.2.2.2.2.2.2.2.2.2.2.1 r155.2.2.2.2.2.2.2.2.2.2.2.1 r155.2.2.2.2.2.2.2.2.2.2.2.2.1 r155.2.2.2.2.2.2.2.2.2.2.2.2.2.1 r155.2.2.2.2.2.2.2.2.2.2.2.2.2.2.1 r155.2.2.2.2.2.2.2.2.2.2.2.2.2.2.2.1 r155.2.2.2.2.2.2.2.2.2.2.2.2.2.2.2.2.1 r155.2.2.2.2.2.2.2.2.2.2.2.2.2.2.2.2.2.1 r155.2.2.2.2.2.2.2.2.2.2.2.2.2.2.2.2.2.2.1 r155.2.2.2.2.2.2.2.2.2.2.2.2.2.2.2.2.2.2.2.1 r155.2.2.2.2.2.2.2.2.2.2.2.2.2.2.2.2.2.2.2.2.1 r155.2.2.2.2.2.2.2.2.2.2.2.2.2.2.2.2.2.2.2.2.2.1 r155.2.2.2.2.2.2.2.2.2.2.2.2.2.2.2.2.2.2.2.2.2.2.1 r155.2.2.2.2.2.2.2.2.2.2.2.2.2.2.2.2.2.2.2.2.2.2.2.1 r155.2.2.2.2.2.2.2.2.2.2.2.2.2.2.2.2.2.2.2.2.2.2.2.2.1 r155.2.2.2.2.2.2.2.2.2.2.2.2.2.2.2.2.2.2.2.2.2.2.2.2.2.1 r155.2.2.2.2.2.2.2.2.2.2.2.2.2.2.2.2.2.2.2.2.2.2.2.2.2.2.1 r155.2.2.2.2.2.2.2.2.2.2.2.2.2.2.2.2.2.2.2.2.2.2.2.2.2.2.2.1) fun q156 =>
                          osum q156 (fun s157 =>
                            some false) (fun r158 =>
                            obind (glazierlaw13_VmStays_j5 fl r158.1 r158.2.1 r158.2.2.1 r158.2.2.2.1 r158.2.2.2.2.1 r158.2.2.2.2.2.1 r158.2.2.2.2.2.2.1 r158.2.2.2.2.2.2.2.1 r158.2.2.2.2.2.2.2.2.1 r158.2.2.2.2.2.2.2.2.2.1 r158.2.2.2.2.2.2.2.2.2.2.1 r158.2.2.2.2.2.2.2.2.2.2.2.1 r158.2.2.2.2.2.2.2.2.2.2.2.2.1 r158.2.2.2.2.2.2.2.2.2.2.2.2.2.1 r158.2.2.2.2.2.2.2.2.2.2.2.2.2.2.1 r158.2.2.2.2.2.2.2.2.2.2.2.2.2.2.2.1 r158.2.2.2.2.2.2.2.2.2.2.2.2.2.2.2.2.1 r158.2.2.2.2.2.2.2.2.2.2.2.2.2.2.2.2.2.1 r158.2.2.2.2.2.2.2.2.2.2.2.2.2.2.2.2.2.2.1 r158.2.2.2.2.2.2.2.2.2.2.2.2.2.2.2.2.2.2.2.1 r158.2.2.2.2.2.2.2.2.2.2.2.2.2.2.2.2.2.2.2.2.1 r158.2.2.2.2.2.2.2.2.2.2.2.2.2.2.2.2.2.2.2.2.2.1 r158.2.2.2.2.2.2.2.2.2.2.2.2.2.2.2.2.2.2.2.2.2.2.1 r158.2.2.2.2.2.2.2.2.2.2.2.2.2.2.2.2.2.2.2.2.2.2.2.1 r158.2.2.2.2.2.2.2.2.2.2.2.2.2.2.2.2.2.2.2.2.2.2.2.2.1 r158.2.2.2.2.2.2.2.2.2.2.2.2.2.2.2.2.2.2.2.2.2.2.2.2.2.1 r158.2.2.2.2.2.2.2.2.2.2.2.2.2.2.2.2.2.2.2.2.2.2.2.2.2.2.1 r158.2.2.2.2.2.2.2.2.2.2.2.2.2.2.2.2.2.2.2.2.2.2.2.2.2.2.2.1 r158.2.2.2.2.2.2.2.2.2.2.2.2.2.2.2.2.2.2.2.2.2.2.2.2.2.2.2.2.1) fun q159 =>
                            osum q159 (fun s160 =>
                              some false) (fun r161 =>
                              obind (glazierlaw13_VmStays_j6 fl r161.1 r161.2.1 r161.2.2.1 r161.2.2.2.1 r161.2.2.2.2.1 r161.2.2.2.2.2.1 r161.2.2.2.2.2.2.1 r161.2.2.2.2.2.2.2.1 r161.2.2.2.2.2.2.2.2.1 r161.2.2.2.2.2.2.2.2.2.1 r161.2.2.2.2.2.2.2.2.2.2.1 r161.2.2.2.2.2.2.2.2.2.2.2.1 r161.2.2.2.2.2.2.2.2.2.2.2.2.1 r161.2.2.2.2.2.2.2.2.2.2.2.2.2.1 r161.2.2.2.2.2.2.2.2.2.2.2.2.2.2.1 r161.2.2.2.2.2.2.2.2.2.2.2.2.2.2.2.1 r161.2.2.2.2.2.2.2.2.2.2.2.2.2.2.2.2.1 r161.2.2.2.2.2.2.2.2.2.2.2.2.2.2.2.2.2.1 r161.2.2.2.2.2.2.2.2.2.2.2.2.2.2.2.2.2.2.1 r161.2.2.2.2.2.2.2.2.2.2.2.2.2.2.2.2.2.2.2.1 r161.2.2.2.2.2.2.2.2.2.2.2.2.2.2.2.2.2.2.2.2.1 r161.2.2.2.2.2.2.2.2.2.2.2.2.2.2.2.2.2.2.2.2.2.1 r161.2.2.2.2.2.2.2.2.2.2.2.2.2.2.2.2.2.2.2.2.2.2.1 r161.2.2.2.2.2.2.2.2.2.2.2.2.2.2.2.2.2.2.2.2.2.2.2.1 r161.2.2.2.2.2.2.2.2.2.2.2.2.2.2.2.2.2.2.2.2.2.2.2.2.1 r161.2.2.2.2.2.2.2.2.2.2.2.2.2.2.2.2.2.2.2.2.2.2.2.2.2.1 r161.2.2.2.2.2.2.2.2.2.2.2.2.2.2.2.2.2.2.2.2.2.2.2.2.2.2.1 r161.2.2.2.2.2.2.2.2.2.2.2.2.2.2.2.2.2.2.2.2.2.2.2.2.2.2.2.1 r161.2.2.2.2.2.2.2.2.2.2.2.2.2.2.2.2.2.2.2.2.2.2.2.2.2.2.2.2.1 r161.2.2.2.2.2.2.2.2.2.2.2.2.2.2.2.2.2.2.2.2.2.2.2.2.2.2.2.2.2.1) fun q162 =>
                              osum q162 (fun s163 =>
                                some false) (fun r164 =>
                                obind (glazierlaw13_VmStays_j7 fl r164.1 r164.2.1 r164.2.2.1 r164.2.2.2.1 r164.2.2.2.2.1 r164.2.2.2.2.2.1 r164.2.2.2.2.2.2.1 r164.2.2.2.2.2.2.2.1 r164.2.2.2.2.2.2.2.2.1 r164.2.2.2.2.2.2.2.2.2.1 r164.2.2.2.2.2.2.2.2.2.2.1 r164.2.2.2.2.2.2.2.2.2.2.2.1 r164.2.2.2.2.2.2.2.2.2.2.2.2.1 r164.2.2.2.2.2.2.2.2.2.2.2.2.2.1 r164.2.2.2.2.2.2.2.2.2.2.2.2.2.2.1 r164.2.2.2.2.2.2.2.2.2.2.2.2.2.2.2.1 r164.2.2.2.2.2.2.2.2.2.2.2.2.2.2.2.2.1 r164.2.2.2.2.2.2.2.2.2.2.2.2.2.2.2.2.2.1 r164.2.2.2.2.2.2.2.2.2.2.2.2.2.2.2.2.2.2.1 r164.2.2.2.2.2.2.2.2.2.2.2.2.2.2.2.2.2.2.2.1 r164.2.2.2.2.2.2.2.2.2.2.2.2.2.2.2.2.2.2.2.2.1 r164.2.2.2.2.2.2.2.2.2.2.2.2.2.2.2.2.2.2.2.2.2.1 r164.2.2.2.2.2.2.2.2.2.2.2.2.2.2.2.2.2.2.2.2.2.2.1 r164.2.2.2.2.2.2.2.2.2.2.2.2.2.2.2.2.2.2.2.2.2.2.2.1 r164.2.2.2.2.2.2.2.2.2.2.2.2.2.2.2.2.2.2.2.2.2.2.2.2.1 r164.2.2.2.2.2.2.2.2.2.2.2.2.2.2.2.2.2.2.2.2.2.2.2.2.2.1 r164.2.2.2.2.2.2.2.2.2.2.2.2.2.2.2.2.2.2.2.2.2.2.2.2.2.2.1 r164.2.2.2.2.2.2.2.2.2.2.2.2.2.2.2.2.2.2.2.2.2.2.2.2.2.2.2.1 r164.2.2.2.2.2.2.2.2.2.2.2.2.2.2.2.2.2.2.2.2.2.2.2.2.2.2.2.2.1 r164.2.2.2.2.2.2.2.2.2.2.2.2.2.2.2.2.2.2.2.2.2.2.2.2.2.2.2.2.2.1 r164.2.2.2.2.2.2.2.2.2.2.2.2.2.2.2.2.2.2.2.2.2.2.2.2.2.2.2.2.2.2.1) fun q165 =>
                                osum q165 (fun s166 =>
                                  some false) (fun r167 =>
                                  obind (glazierlaw13_VmStays_j8 fl r167.1 r167.2.1 r167.2.2.1 r167.2.2.2.1 r167.2.2.2.2.1 r167.2.2.2.2.2.1 r167.2.2.2.2.2.2.1 r167.2.2.2.2.2.2.2.1 r167.2.2.2.2.2.2.2.2.1 r167.2.2.2.2.2.2.2.2.2.1 r167.2.2.2.2.2.2.2.2.2.2.1 r167.2.2.2.2.2.2.2.2.2.2.2.1 r167.2.2.2.2.2.2.2.2.2.2.2.2.1 r167.2.2.2.2.2.2.2.2.2.2.2.2.2.1 r167.2.2.2.2.2.2.2.2.2.2.2.2.2.2.1 r167.2.2.2.2.2.2.2.2.2.2.2.2.2.2.2.1 r167.2.2.2.2.2.2.2.2.2.2.2.2.2.2.2.2.1 r167.2.2.2.2.2.2.2.2.2.2.2.2.2.2.2.2.2.1 r167.2.2.2.2.2.2.2.2.2.2.2.2.2.2.2.2.2.2.1 r167.2.2.2.2.2.2.2.2.2.2.2.2.2.2.2.2.2.2.2.1 r167.2.2.2.2.2.2.2.2.2.2.2.2.2.2.2.2.2.2.2.2.1 r167.2.2.2.2.2.2.2.2.2.2.2.2.2.2.2.2.2.2.2.2.2.1 r167.2.2.2.2.2.2.2.2.2.2.2.2.2.2.2.2.2.2.2.2.2.2.1 r167.2.2.2.2.2.2.2.2.2.2.2.2.2.2.2.2.2.2.2.2.2.2.2.1 r167.2.2.2.2.2.2.2.2.2.2.2.2.2.2.2.2.2.2.2.2.2.2.2.2.1 r167.2.2.2.2.2.2.2.2.2.2.2.2.2.2.2.2.2.2.2.2.2.2.2.2.2.1 r167.2.2.2.2.2.2.2.2.2.2.2.2.2.2.2.2.2.2.2.2.2.2.2.2.2.2.1 r167.2.2.2.2.2.2.2.2.2.2.2.2.2.2.2.2.2.2.2.2.2.2.2.2.2.2.2.1 r167.2.2.2.2.2.2.2.2.2.2.2.2.2.2.2.2.2.2.2.2.2.2.2.2.2.2.2.2.1 r167.2.2.2.2.2.2.2.2.2.2.2.2.2.2.2.2.2.2.2.2.2.2.2.2.2.2.2.2.2.1 r167.2.2.2.2.2.2.2.2.2.2.2.2.2.2.2.2.2.2.2.2.2.2.2.2.2.2.2.2.2.2.1 r167.2.2.2.2.2.2.2.2.2.2.2.2.2.2.2.2.2.2.2.2.2.2.2.2.2.2.2.2.2.2.2.1) fun q168 =>
                                  osum q168 (fun s169 =>
                                    some false) (fun r170 =>
                                    obind (glazierlaw13_VmStays_j9 fl r170.1 r170.2.1 r170.2.2.1 r170.2.2.2.1 r170.2.2.2.2.1 r170.2.2.2.2.2.1 r170.2.2.2.2.2.2.1 r170.2.2.2.2.2.2.2.1 r170.2.2.2.2.2.2.2.2.1 r170.2.2.2.2.2.2.2.2.2.1 r170.2.2.2.2.2.2.2.2.2.2.1 r170.2.2.2.2.2.2.2.2.2.2.2.1 r170.2.2.2.2.2.2.2.2.2.2.2.2.1 r170.2.2.2.2.2.2.2.2.2.2.2.2.2.1 r170.2.2.2.2.2.2.2.2.2.2.2.2.2.2.1 r170.2.2.2.2.2.2.2.2.2.2.2.2.2.2.2.1 r170.2.2.2.2.2.2.2.2.2.2.2.2.2.2.2.2.1 r170.2.2.2.2.2.2.2.2.2.2.2.2.2.2.2.2.2.1 r170.2.2.2.2.2.2.2.2.2.2.2.2.2.2.2.2.2.2.1 r170.2.2.2.2.2.2.2.2.2.2.2.2.2.2.2.2.2.2.2.1 r170.2.2.2.2.2.2.2.2.2.2.2.2.2.2.2.2.2.2.2.2.1 r170.2.2.2.2.2.2.2.2.2.2.2.2.2.2.2.2.2.2.2.2.2.1 r170.2.2.2.2.2.2.2.2.2.2.2.2.2.2.2.2.2.2.2.2.2.2.1 r170.2.2.2.2.2.2.2.2.2.2.2.2.2.2.2.2.2.2.2.2.2.2.2.1 r170.2.2.2.2.2.2.2.2.2.2.2.2.2.2.2.2.2.2.2.2.2.2.2.2.1 r170.2.2.2.2.2.2.2.2.2.2.2.2.2.2.2.2.2.2.2.2.2.2.2.2.2.1 r170.2.2.2.2.2.2.2.2.2.2.2.2.2.2.2.2.2.2.2.2.2.2.2.2.2.2.1 r170.2.2.2.2.2.2.2.2.2.2.2.2.2.2.2.2.2.2.2.2.2.2.2.2.2.2.2.1 r170.2.2.2.2.2.2.2.2.2.2.2.2.2.2.2.2.2.2.2.2.2.2.2.2.2.2.2.2.1 r170.2.2.2.2.2.2.2.2.2.2.2.2.2.2.2.2.2.2.2.2.2.2.2.2.2.2.2.2.2.1 r170.2.2.2.2.2.2.2.2.2.2.2.2.2.2.2.2.2.2.2.2.2.2.2.2.2.2.2.2.2.2.1 r170.2.2.2.2.2.2.2.2.2.2.2.2.2.2.2.2.2.2.2.2.2.2.2.2.2.2.2.2.2.2.2.1 r170.2.2.2.2.2.2.2.2.2.2.2.2.2.2.2.2.2.2.2.2.2.2.2.2.2.2.2.2.2.2.2.2.1) fun q171 =>
                                    osum q171 (fun s172 =>
                                      some false) (fun r173 =>
                                      obind (vm_Run fl r173.2.1 (0, (0, [])) (r173.2.2.2.2.2.2.2.2.2.2.2.2.2.2.2.2.2.2.2.2.2.2.2.2.2.2.1, (r173.2.2.2.2.2.2.2.2.2.2.2.2.2.2.2.2.2.2.2.2.2.2.2.2.2.2.2.1, (r173.2.2.2.2.2.2.2.2.2.2.2.2.2.2.2.2.2.2.2.2.2.2.2.2.2.2.2.2.1, (r173.2.2.2.2.2.2.2.2.2.2.2.2.2.2.2.2.2.2.2.2.2.2.2.2.2.2.2.2.2.1, (r173.2.2.2.2.2.2.2.2.2.2.2.2.2.2.2.2.2.2.2.2.2.2.2.2.2.2.2.2.2.2.1, (r173.2.2.2.2.2.2.2.2.2.2.2.2.2.2.2.2.2.2.2.2.2.2.2.2.2.2.2.2.2.2.2.1, (r173.2.2.2.2.2.2.2.2.2.2.2.2.2.2.2.2.2.2.2.2.2.2.2.2.2.2.2.2.2.2.2.2.1, r173.2.2.2.2.2.2.2.2.2.2.2.2.2.2.2.2.2.2.2.2.2.2.2.2.2.2.2.2.2.2.2.2.2.1)))))))) fun q174 =>
                                      bite r173.1 (
                                        bnd (F.eq q174.2.2 0) fun v175 =>
                                        bite v175 (
                                          bnd (F.both (F.eq q174.1.1 r173.2.2.2.2.2.2.2.2.2.2.1) (F.both (F.eq q174.1.2.1 r173.2.2.2.2.2.2.2.2.2.2.2.1) (F.both (F.eq q174.1.2.2.1 r173.2.2.2.2.2.2.2.2.2.2.2.2.1) (F.both (F.eq q174.1.2.2.2.1 r173.2.2.2.2.2.2.2.2.2.2.2.2.2.1) (F.both (F.eq q174.1.2.2.2.2.1 r173.2.2.2.2.2.2.2.2.2.2.2.2.2.2.1) (F.both (F.eq q174.1.2.2.2.2.2.1 r173.2.2.2.2.2.2.2.2.2.2.2.2.2.2.2.1) (F.both (F.eq q174.1.2.2.2.2.2.2.1 r173.2.2.2.2.2.2.2.2.2.2.2.2.2.2.2.2.1) (F.eq q174.1.2.2.2.2.2.2.2 r173.2.2.2.2.2.2.2.2.2.2.2.2.2.2.2.2.2.1)))))))) fun v176 =>
                                          some v176) (
                                          some false)) (
                                        some false)))))))))))))))))))


end Go.Proofs.Ytaegoofefcidnaa.G
