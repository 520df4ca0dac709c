/- A part of the proof. -/
import Derived.Test.YthnagpmnoncijaaGreatMchA
set_option linter.unusedVariables false
set_option maxRecDepth 100000
def Go.Proofs.YthnagpmnoncijaaGreat.M.F.lit (l:List Nat):ByteArray:=⟨(l.map UInt8.ofNat).toArray⟩
namespace Go.Proofs.YthnagpmnoncijaaGreat.G
open Go Go.Proofs.YthnagpmnoncijaaGreat.M
abbrev T2:=List (Int × Int × Int × Int × Int × Int × Int × Int)
abbrev T3:=Int × Int × Int × Int
abbrev T1:=Int × Int × Int × Bool × List T3
abbrev T4:=List (List (Int × Int × Int × Int × Int))
abbrev T5:=Bool × Int × Int × Int × Int × Int × Int × Int × Int × Bool × Int × Int × Int × Int × Int × Int × Int × Int × Bool × Int × Int × Int × Int × Int × Int × Int × Int × Bool × Int × Int × Int × Int × Int × Int × Int × Int × Int × Int × Int × Int × Int × Int × Int × Int × Int × Int × Int × Int × Int × Int × Int × Int × Unit
abbrev T6:=List (Int × Int × List T3)
noncomputable def colour_Right (x0:T3):Option (Bool):=
 bnd (F.max (F.max x0.1 x0.2.1) x0.2.2.1) fun v1=>
 bnd (F.le v1 x0.2.2.2) fun v2=>
 some v2
noncomputable def scene_counts_1 (x0:T1):Option (Bool):=
 bnd (F.len x0.2.2.2.2) fun v1=>
 bnd (F.gt v1 32) fun v2=>
 some v2
noncomputable def slices_IndexFunc_l1 (fl:Nat):Nat -> (List T1) -> Unit -> Int -> Int -> Option (((Int × Unit) ⊕ (Unit)))
 | 0,_,_,_,_=>none
 | n + 1,x0,x1,x2,x3=>
 bnd (F.lt x3 x2) fun v4=>
 bite v4 (
 obind (F.get x0 x3) fun q5=>
 obind (scene_counts_1 q5) fun q6=>
 bite q6 (
 some (.inl (x3,()))) (
 bnd (F.add .i64 x3 1) fun v7=>
 slices_IndexFunc_l1 fl n x0 () x2 v7)) (
 some (.inr ()))
noncomputable def slices_IndexFunc (fl:Nat) (x0:List T1) (x1:Unit):Option (Int):=
 bnd (F.len x0) fun v2=>
 obind (slices_IndexFunc_l1 fl fl x0 () v2 0) fun q3=>
 osum q3 (fun s4=>
 some s4.1) (fun r5=>
 some (-1))
noncomputable def slices_ContainsFunc (fl:Nat) (x0:List T1) (x1:Unit):Option (Bool):=
 obind (slices_IndexFunc fl x0 ()) fun q2=>
 bnd (F.ge q2 0) fun v3=>
 some v3
noncomputable def scene_counts (fl:Nat) (x0:Int × Int × T3 × T2 × T6 × T4 × List T1):Option (Bool):=
 bnd (F.len x0.2.2.2.1) fun v1=>
 bnd (F.le v1 64) fun v2=>
 bite v2 (
 bnd (F.len x0.2.2.2.2.1) fun v3=>
 bnd (F.le v3 4) fun v4=>
 bite v4 (
 bnd (F.len x0.2.2.2.2.2.1) fun v5=>
 bnd (F.le v5 4) fun v6=>
 bite v6 (
 bnd (F.len x0.2.2.2.2.2.2) fun v7=>
 bnd (F.le v7 8) fun v8=>
 bite v8 (
 obind (slices_ContainsFunc fl x0.2.2.2.2.2.2 ()) fun q9=>
 bnd (F.not q9) fun v10=>
 some v10) (
 some false)) (
 some false)) (
 some false)) (
 some false)
noncomputable def vec_row (x0:Int × Int × Int × Int × Int × Int × Int × Int):Option (Int × Int × Int × Int × Int × Int × Int × Int):=
 some x0
noncomputable def vec_held (x0:Int × Int × Int × Int × Int × Int × Int × Int):Option (Int × Int × Int × Int × Int × Int × Int × Int):=
 bnd (F.max x0.1 (-32768)) fun v1=>
 bnd (F.min v1 32768) fun v2=>
 bnd (F.max x0.2.1 (-32768)) fun v3=>
 bnd (F.min v3 32768) fun v4=>
 bnd (F.max x0.2.2.1 (-32768)) fun v5=>
 bnd (F.min v5 32768) fun v6=>
 bnd (F.max x0.2.2.2.1 (-32768)) fun v7=>
 bnd (F.min v7 32768) fun v8=>
 bnd (F.max x0.2.2.2.2.1 (-4096)) fun v9=>
 bnd (F.min v9 4096) fun v10=>
 bnd (F.max x0.2.2.2.2.2.1 (-4096)) fun v11=>
 bnd (F.min v11 4096) fun v12=>
 bnd (F.max x0.2.2.2.2.2.2.1 (-4096)) fun v13=>
 bnd (F.min v13 4096) fun v14=>
 bnd (F.max x0.2.2.2.2.2.2.2 (-4096)) fun v15=>
 bnd (F.min v15 4096) fun v16=>
 some (v2,(v4,(v6,(v8,(v10,(v12,(v14,v16)))))))
noncomputable def vec_Right (x0:Int × Int × Int × Int × Int × Int × Int × Int):Option (Bool):=
 obind (vec_row x0) fun q1=>
 obind (vec_held q1) fun q2=>
 bnd (F.both (F.eq q2.1 q1.1) (F.both (F.eq q2.2.1 q1.2.1) (F.both (F.eq q2.2.2.1 q1.2.2.1) (F.both (F.eq q2.2.2.2.1 q1.2.2.2.1) (F.both (F.eq q2.2.2.2.2.1 q1.2.2.2.2.1) (F.both (F.eq q2.2.2.2.2.2.1 q1.2.2.2.2.2.1) (F.both (F.eq q2.2.2.2.2.2.2.1 q1.2.2.2.2.2.2.1) (F.eq q2.2.2.2.2.2.2.2 q1.2.2.2.2.2.2.2)))))))) fun v3=>
 bite v3 (
 bnd (F.gt x0.2.2.2.1 0) fun v4=>
 some v4) (
 some false)
noncomputable def scene_Check_1 (x0:Int × Int × Int × Int × Int × Int × Int × Int):Option (Bool):=
 obind (vec_Right x0) fun q1=>
 bnd (F.not q1) fun v2=>
 some v2
noncomputable def slices_IndexFunc__2_l1 (fl:Nat):Nat -> T2 -> Unit -> Int -> Int -> Option (((Int × Unit) ⊕ (Unit)))
 | 0,_,_,_,_=>none
 | n + 1,x0,x1,x2,x3=>
 bnd (F.lt x3 x2) fun v4=>
 bite v4 (
 obind (F.get x0 x3) fun q5=>
 obind (scene_Check_1 q5) fun q6=>
 bite q6 (
 some (.inl (x3,()))) (
 bnd (F.add .i64 x3 1) fun v7=>
 slices_IndexFunc__2_l1 fl n x0 () x2 v7)) (
 some (.inr ()))
noncomputable def slices_IndexFunc__2 (fl:Nat) (x0:T2) (x1:Unit):Option (Int):=
 bnd (F.len x0) fun v2=>
 obind (slices_IndexFunc__2_l1 fl fl x0 () v2 0) fun q3=>
 osum q3 (fun s4=>
 some s4.1) (fun r5=>
 some (-1))
noncomputable def slices_ContainsFunc__2 (fl:Nat) (x0:T2) (x1:Unit):Option (Bool):=
 obind (slices_IndexFunc__2 fl x0 ()) fun q2=>
 bnd (F.ge q2 0) fun v3=>
 some v3
noncomputable def texture_sides_l1 (fl:Nat):Nat -> (List (Int)) -> Int -> Int -> Option (((Unit) ⊕ (Unit)))
 | 0,_,_,_=>none
 | n + 1,x0,x1,x2=>
 bnd (F.lt x2 x1) fun v3=>
 bite v3 (
 obind (F.get x0 x2) fun q4=>
 bnd (F.lt q4 1) fun v5=>
 bite v5 (
 some (.inl ())) (
 bnd (F.gt q4 16) fun v6=>
 bite v6 (
 some (.inl ())) (
 bnd (F.add .i64 x2 1) fun v7=>
 texture_sides_l1 fl n x0 x1 v7))) (
 some (.inr ()))
noncomputable def texture_sides (fl:Nat) (x0:List (Int)):Option (Bool):=
 bnd (F.len x0) fun v1=>
 obind (texture_sides_l1 fl fl x0 v1 0) fun q2=>
 osum q2 (fun s3=>
 some false) (fun r4=>
 some true)
noncomputable def texture_Right (fl:Nat) (x0:Int × Int × List T3):Option (Bool):=
 obind (texture_sides fl [x0.1,x0.2.1]) fun q1=>
 bite q1 (
 bnd (F.len x0.2.2) fun v2=>
 bnd (F.mul .i64 x0.1 x0.2.1) fun v3=>
 bnd (F.eq v2 v3) fun v4=>
 some v4) (
 some false)
noncomputable def scene_Check_2 (fl:Nat) (x0:Int × Int × List T3):Option (Bool):=
 obind (texture_Right fl x0) fun q1=>
 bnd (F.not q1) fun v2=>
 some v2
noncomputable def slices_IndexFunc__3_l1 (fl:Nat):Nat -> T6 -> Unit -> Int -> Int -> Option (((Int × Unit) ⊕ (Unit)))
 | 0,_,_,_,_=>none
 | n + 1,x0,x1,x2,x3=>
 bnd (F.lt x3 x2) fun v4=>
 bite v4 (
 obind (F.get x0 x3) fun q5=>
 obind (scene_Check_2 fl q5) fun q6=>
 bite q6 (
 some (.inl (x3,()))) (
 bnd (F.add .i64 x3 1) fun v7=>
 slices_IndexFunc__3_l1 fl n x0 () x2 v7)) (
 some (.inr ()))
noncomputable def slices_IndexFunc__3 (fl:Nat) (x0:T6) (x1:Unit):Option (Int):=
 bnd (F.len x0) fun v2=>
 obind (slices_IndexFunc__3_l1 fl fl x0 () v2 0) fun q3=>
 osum q3 (fun s4=>
 some s4.1) (fun r5=>
 some (-1))
noncomputable def slices_ContainsFunc__3 (fl:Nat) (x0:T6) (x1:Unit):Option (Bool):=
 obind (slices_IndexFunc__3 fl x0 ()) fun q2=>
 bnd (F.ge q2 0) fun v3=>
 some v3
noncomputable def code_uses (x0:Int):Option (Int):=
 bnd (F.eq x0 0) fun v1=>
 bite v1 (
 some 9) (
 bnd (F.eq x0 1) fun v2=>
 bite v2 (
 some 3) (
 bnd (F.eq x0 9) fun v3=>
 bite v3 (
 bite v3 (
 some 11) (
 bnd (F.eq x0 12) fun v4=>
 bite v4 (
 some 10) (
 bnd (F.eq x0 2) fun v5=>
 bite v5 (
 bite v5 (
 some 7) (
 some 0)) (
 bnd (F.eq x0 3) fun v6=>
 bite v6 (
 bite v6 (
 some 7) (
 some 0)) (
 bnd (F.eq x0 4) fun v7=>
 bite v7 (
 bite v7 (
 some 7) (
 some 0)) (
 bnd (F.eq x0 5) fun v8=>
 bite v8 (
 bite v8 (
 some 7) (
 some 0)) (
 bnd (F.eq x0 6) fun v9=>
 bite v9 (
 bite v9 (
 some 7) (
 some 0)) (
 bnd (F.eq x0 7) fun v10=>
 bite v10 (
 bite v10 (
 some 7) (
 some 0)) (
 bnd (F.eq x0 8) fun v11=>
 bite v11 (
 bite v11 (
 some 7) (
 some 0)) (
 bnd (F.eq x0 11) fun v12=>
 bite v12 (
 bite v12 (
 some 7) (
 some 0)) (
 bnd (F.eq x0 13) fun v13=>
 bite v13 (
 bite v13 (
 some 7) (
 some 0)) (
 bnd (F.eq x0 14) fun v14=>
 bite v14 (
 some 7) (
 some 0))))))))))))) (
 bnd (F.eq x0 10) fun v15=>
 bite v15 (
 some 11) (
 bnd (F.eq x0 12) fun v16=>
 bite v16 (
 some 10) (
 bnd (F.eq x0 2) fun v17=>
 bite v17 (
 bite v17 (
 some 7) (
 some 0)) (
 bnd (F.eq x0 3) fun v18=>
 bite v18 (
 bite v18 (
 some 7) (
 some 0)) (
 bnd (F.eq x0 4) fun v19=>
 bite v19 (
 bite v19 (
 some 7) (
 some 0)) (
 bnd (F.eq x0 5) fun v20=>
 bite v20 (
 bite v20 (
 some 7) (
 some 0)) (
 bnd (F.eq x0 6) fun v21=>
 bite v21 (
 bite v21 (
 some 7) (
 some 0)) (
 bnd (F.eq x0 7) fun v22=>
 bite v22 (
 bite v22 (
 some 7) (
 some 0)) (
 bnd (F.eq x0 8) fun v23=>
 bite v23 (
 bite v23 (
 some 7) (
 some 0)) (
 bnd (F.eq x0 11) fun v24=>
 bite v24 (
 bite v24 (
 some 7) (
 some 0)) (
 bnd (F.eq x0 13) fun v25=>
 bite v25 (
 bite v25 (
 some 7) (
 some 0)) (
 bnd (F.eq x0 14) fun v26=>
 bite v26 (
 some 7) (
 some 0)))))))))))))))
noncomputable def code_asks (x0:Int × Int × Int × Int × Int):Option (Bool):=
 bnd (F.eq x0.1 13) fun v1=>
 bite v1 (
 some true) (
 bnd (F.eq x0.1 14) fun v2=>
 some v2)
noncomputable def code_fits (x0 x1 x2:Int) (x3:Bool):Option (Bool):=
 bnd (F.ge x0 x1) fun v4=>
 bite v4 (
 bnd (F.le x0 x2) fun v5=>
 bite v5 (
 bite x3 (
 some true) (
 bnd (F.eq x0 0) fun v6=>
 some v6)) (
 some false)) (
 some false)
noncomputable def code_One (x0:Int × Int × Int × Int × Int) (x1 x2:Int):Option (Bool):=
 obind (code_uses x0.1) fun q3=>
 bnd (F.eq x0.1 0) fun v4=>
 bite v4 (
 obind (code_asks x0) fun q5=>
 bite q5 (
 bnd (F.gt q3 0) fun v6=>
 bite v6 (
 bnd (F.ge x1 0) fun v7=>
 bite v7 (
 bnd (F.lt x1 x2) fun v8=>
 bite v8 (
 bnd (F.conv .i64 x0.2.1) fun v9=>
 bnd (F.and .i64 q3 1) fun v10=>
 bnd (F.gt v10 0) fun v11=>
 obind (code_fits v9 0 4 v11) fun q12=>
 bite q12 (
 bnd (F.conv .i64 x0.2.2.1) fun v13=>
 bnd (F.and .i64 q3 2) fun v14=>
 bnd (F.gt v14 0) fun v15=>
 obind (code_fits v13 0 7 v15) fun q16=>
 bite q16 (
 bnd (F.conv .i64 x0.2.2.2.1) fun v17=>
 bnd (F.and .i64 q3 4) fun v18=>
 bnd (F.gt v18 0) fun v19=>
 obind (code_fits v17 0 7 v19) fun q20=>
 bite q20 (
 bnd (F.and .i64 q3 8) fun v21=>
 bnd (F.gt v21 0) fun v22=>
 obind (code_fits x0.2.2.2.2 (-2147483648) 2147483647 v22) fun q23=>
 some q23) (
 some false)) (
 some false)) (
 some false)) (
 some false)) (
 some false)) (
 some false)) (
 bnd (F.gt q3 0) fun v24=>
 bite v24 (
 bnd (F.ge x1 0) fun v25=>
 bite v25 (
 bnd (F.lt x1 x2) fun v26=>
 bite v26 (
 bnd (F.conv .i64 x0.2.1) fun v27=>
 bnd (F.and .i64 q3 1) fun v28=>
 bnd (F.gt v28 0) fun v29=>
 obind (code_fits v27 0 7 v29) fun q30=>
 bite q30 (
 bnd (F.conv .i64 x0.2.2.1) fun v31=>
 bnd (F.and .i64 q3 2) fun v32=>
 bnd (F.gt v32 0) fun v33=>
 obind (code_fits v31 0 7 v33) fun q34=>
 bite q34 (
 bnd (F.conv .i64 x0.2.2.2.1) fun v35=>
 bnd (F.and .i64 q3 4) fun v36=>
 bnd (F.gt v36 0) fun v37=>
 obind (code_fits v35 0 7 v37) fun q38=>
 bite q38 (
 bnd (F.and .i64 q3 8) fun v39=>
 bnd (F.gt v39 0) fun v40=>
 obind (code_fits x0.2.2.2.2 (-2147483648) 2147483647 v40) fun q41=>
 some q41) (
 some false)) (
 some false)) (
 some false)) (
 some false)) (
 some false)) (
 some false))) (
 bnd (F.eq x0.1 9) fun v42=>
 bite v42 (
 bite v42 (
 obind (code_asks x0) fun q43=>
 bite q43 (
 bnd (F.gt q3 0) fun v44=>
 bite v44 (
 bnd (F.ge x1 0) fun v45=>
 bite v45 (
 bnd (F.lt x1 x2) fun v46=>
 bite v46 (
 bnd (F.conv .i64 x0.2.1) fun v47=>
 bnd (F.and .i64 q3 1) fun v48=>
 bnd (F.gt v48 0) fun v49=>
 obind (code_fits v47 0 4 v49) fun q50=>
 bite q50 (
 bnd (F.conv .i64 x0.2.2.1) fun v51=>
 bnd (F.and .i64 q3 2) fun v52=>
 bnd (F.gt v52 0) fun v53=>
 obind (code_fits v51 0 7 v53) fun q54=>
 bite q54 (
 bnd (F.conv .i64 x0.2.2.2.1) fun v55=>
 bnd (F.and .i64 q3 4) fun v56=>
 bnd (F.gt v56 0) fun v57=>
 obind (code_fits v55 0 7 v57) fun q58=>
 bite q58 (
 bnd (F.and .i64 q3 8) fun v59=>
 bnd (F.gt v59 0) fun v60=>
 obind (code_fits x0.2.2.2.2 0 31 v60) fun q61=>
 some q61) (
 some false)) (
 some false)) (
 some false)) (
 some false)) (
 some false)) (
 some false)) (
 bnd (F.gt q3 0) fun v62=>
 bite v62 (
 bnd (F.ge x1 0) fun v63=>
 bite v63 (
 bnd (F.lt x1 x2) fun v64=>
 bite v64 (
 bnd (F.conv .i64 x0.2.1) fun v65=>
 bnd (F.and .i64 q3 1) fun v66=>
 bnd (F.gt v66 0) fun v67=>
 obind (code_fits v65 0 7 v67) fun q68=>
 bite q68 (
 bnd (F.conv .i64 x0.2.2.1) fun v69=>
 bnd (F.and .i64 q3 2) fun v70=>
 bnd (F.gt v70 0) fun v71=>
 obind (code_fits v69 0 7 v71) fun q72=>
 bite q72 (
 bnd (F.conv .i64 x0.2.2.2.1) fun v73=>
 bnd (F.and .i64 q3 4) fun v74=>
 bnd (F.gt v74 0) fun v75=>
 obind (code_fits v73 0 7 v75) fun q76=>
 bite q76 (
 bnd (F.and .i64 q3 8) fun v77=>
 bnd (F.gt v77 0) fun v78=>
 obind (code_fits x0.2.2.2.2 0 31 v78) fun q79=>
 some q79) (
 some false)) (
 some false)) (
 some false)) (
 some false)) (
 some false)) (
 some false))) (
 bnd (F.eq x0.1 12) fun v80=>
 bite v80 (
 bnd (F.sub .i64 x2 x1) fun v81=>
 bnd (F.sub .i64 v81 1) fun v82=>
 obind (code_asks x0) fun q83=>
 bite q83 (
 bnd (F.gt q3 0) fun v84=>
 bite v84 (
 bnd (F.ge x1 0) fun v85=>
 bite v85 (
 bnd (F.lt x1 x2) fun v86=>
 bite v86 (
 bnd (F.conv .i64 x0.2.1) fun v87=>
 bnd (F.and .i64 q3 1) fun v88=>
 bnd (F.gt v88 0) fun v89=>
 obind (code_fits v87 0 4 v89) fun q90=>
 bite q90 (
 bnd (F.conv .i64 x0.2.2.1) fun v91=>
 bnd (F.and .i64 q3 2) fun v92=>
 bnd (F.gt v92 0) fun v93=>
 obind (code_fits v91 0 7 v93) fun q94=>
 bite q94 (
 bnd (F.conv .i64 x0.2.2.2.1) fun v95=>
 bnd (F.and .i64 q3 4) fun v96=>
 bnd (F.gt v96 0) fun v97=>
 obind (code_fits v95 0 7 v97) fun q98=>
 bite q98 (
 bnd (F.and .i64 q3 8) fun v99=>
 bnd (F.gt v99 0) fun v100=>
 obind (code_fits x0.2.2.2.2 0 v82 v100) fun q101=>
 some q101) (
 some false)) (
 some false)) (
 some false)) (
 some false)) (
 some false)) (
 some false)) (
 bnd (F.gt q3 0) fun v102=>
 bite v102 (
 bnd (F.ge x1 0) fun v103=>
 bite v103 (
 bnd (F.lt x1 x2) fun v104=>
 bite v104 (
 bnd (F.conv .i64 x0.2.1) fun v105=>
 bnd (F.and .i64 q3 1) fun v106=>
 bnd (F.gt v106 0) fun v107=>
 obind (code_fits v105 0 7 v107) fun q108=>
 bite q108 (
 bnd (F.conv .i64 x0.2.2.1) fun v109=>
 bnd (F.and .i64 q3 2) fun v110=>
 bnd (F.gt v110 0) fun v111=>
 obind (code_fits v109 0 7 v111) fun q112=>
 bite q112 (
 bnd (F.conv .i64 x0.2.2.2.1) fun v113=>
 bnd (F.and .i64 q3 4) fun v114=>
 bnd (F.gt v114 0) fun v115=>
 obind (code_fits v113 0 7 v115) fun q116=>
 bite q116 (
 bnd (F.and .i64 q3 8) fun v117=>
 bnd (F.gt v117 0) fun v118=>
 obind (code_fits x0.2.2.2.2 0 v82 v118) fun q119=>
 some q119) (
 some false)) (
 some false)) (
 some false)) (
 some false)) (
 some false)) (
 some false))) (
 obind (code_asks x0) fun q120=>
 bite q120 (
 bnd (F.gt q3 0) fun v121=>
 bite v121 (
 bnd (F.ge x1 0) fun v122=>
 bite v122 (
 bnd (F.lt x1 x2) fun v123=>
 bite v123 (
 bnd (F.conv .i64 x0.2.1) fun v124=>
 bnd (F.and .i64 q3 1) fun v125=>
 bnd (F.gt v125 0) fun v126=>
 obind (code_fits v124 0 4 v126) fun q127=>
 bite q127 (
 bnd (F.conv .i64 x0.2.2.1) fun v128=>
 bnd (F.and .i64 q3 2) fun v129=>
 bnd (F.gt v129 0) fun v130=>
 obind (code_fits v128 0 7 v130) fun q131=>
 bite q131 (
 bnd (F.conv .i64 x0.2.2.2.1) fun v132=>
 bnd (F.and .i64 q3 4) fun v133=>
 bnd (F.gt v133 0) fun v134=>
 obind (code_fits v132 0 7 v134) fun q135=>
 bite q135 (
 bnd (F.and .i64 q3 8) fun v136=>
 bnd (F.gt v136 0) fun v137=>
 obind (code_fits x0.2.2.2.2 0 0 v137) fun q138=>
 some q138) (
 some false)) (
 some false)) (
 some false)) (
 some false)) (
 some false)) (
 some false)) (
 bnd (F.gt q3 0) fun v139=>
 bite v139 (
 bnd (F.ge x1 0) fun v140=>
 bite v140 (
 bnd (F.lt x1 x2) fun v141=>
 bite v141 (
 bnd (F.conv .i64 x0.2.1) fun v142=>
 bnd (F.and .i64 q3 1) fun v143=>
 bnd (F.gt v143 0) fun v144=>
 obind (code_fits v142 0 7 v144) fun q145=>
 bite q145 (
 bnd (F.conv .i64 x0.2.2.1) fun v146=>
 bnd (F.and .i64 q3 2) fun v147=>
 bnd (F.gt v147 0) fun v148=>
 obind (code_fits v146 0 7 v148) fun q149=>
 bite q149 (
 bnd (F.conv .i64 x0.2.2.2.1) fun v150=>
 bnd (F.and .i64 q3 4) fun v151=>
 bnd (F.gt v151 0) fun v152=>
 obind (code_fits v150 0 7 v152) fun q153=>
 bite q153 (
 bnd (F.and .i64 q3 8) fun v154=>
 bnd (F.gt v154 0) fun v155=>
 obind (code_fits x0.2.2.2.2 0 0 v155) fun q156=>
 some q156) (
 some false)) (
 some false)) (
 some false)) (
 some false)) (
 some false)) (
 some false))))) (
 bnd (F.eq x0.1 10) fun v157=>
 bite v157 (
 obind (code_asks x0) fun q158=>
 bite q158 (
 bnd (F.gt q3 0) fun v159=>
 bite v159 (
 bnd (F.ge x1 0) fun v160=>
 bite v160 (
 bnd (F.lt x1 x2) fun v161=>
 bite v161 (
 bnd (F.conv .i64 x0.2.1) fun v162=>
 bnd (F.and .i64 q3 1) fun v163=>
 bnd (F.gt v163 0) fun v164=>
 obind (code_fits v162 0 4 v164) fun q165=>
 bite q165 (
 bnd (F.conv .i64 x0.2.2.1) fun v166=>
 bnd (F.and .i64 q3 2) fun v167=>
 bnd (F.gt v167 0) fun v168=>
 obind (code_fits v166 0 7 v168) fun q169=>
 bite q169 (
 bnd (F.conv .i64 x0.2.2.2.1) fun v170=>
 bnd (F.and .i64 q3 4) fun v171=>
 bnd (F.gt v171 0) fun v172=>
 obind (code_fits v170 0 7 v172) fun q173=>
 bite q173 (
 bnd (F.and .i64 q3 8) fun v174=>
 bnd (F.gt v174 0) fun v175=>
 obind (code_fits x0.2.2.2.2 0 31 v175) fun q176=>
 some q176) (
 some false)) (
 some false)) (
 some false)) (
 some false)) (
 some false)) (
 some false)) (
 bnd (F.gt q3 0) fun v177=>
 bite v177 (
 bnd (F.ge x1 0) fun v178=>
 bite v178 (
 bnd (F.lt x1 x2) fun v179=>
 bite v179 (
 bnd (F.conv .i64 x0.2.1) fun v180=>
 bnd (F.and .i64 q3 1) fun v181=>
 bnd (F.gt v181 0) fun v182=>
 obind (code_fits v180 0 7 v182) fun q183=>
 bite q183 (
 bnd (F.conv .i64 x0.2.2.1) fun v184=>
 bnd (F.and .i64 q3 2) fun v185=>
 bnd (F.gt v185 0) fun v186=>
 obind (code_fits v184 0 7 v186) fun q187=>
 bite q187 (
 bnd (F.conv .i64 x0.2.2.2.1) fun v188=>
 bnd (F.and .i64 q3 4) fun v189=>
 bnd (F.gt v189 0) fun v190=>
 obind (code_fits v188 0 7 v190) fun q191=>
 bite q191 (
 bnd (F.and .i64 q3 8) fun v192=>
 bnd (F.gt v192 0) fun v193=>
 obind (code_fits x0.2.2.2.2 0 31 v193) fun q194=>
 some q194) (
 some false)) (
 some false)) (
 some false)) (
 some false)) (
 some false)) (
 some false))) (
 bnd (F.eq x0.1 12) fun v195=>
 bite v195 (
 bnd (F.sub .i64 x2 x1) fun v196=>
 bnd (F.sub .i64 v196 1) fun v197=>
 obind (code_asks x0) fun q198=>
 bite q198 (
 bnd (F.gt q3 0) fun v199=>
 bite v199 (
 bnd (F.ge x1 0) fun v200=>
 bite v200 (
 bnd (F.lt x1 x2) fun v201=>
 bite v201 (
 bnd (F.conv .i64 x0.2.1) fun v202=>
 bnd (F.and .i64 q3 1) fun v203=>
 bnd (F.gt v203 0) fun v204=>
 obind (code_fits v202 0 4 v204) fun q205=>
 bite q205 (
 bnd (F.conv .i64 x0.2.2.1) fun v206=>
 bnd (F.and .i64 q3 2) fun v207=>
 bnd (F.gt v207 0) fun v208=>
 obind (code_fits v206 0 7 v208) fun q209=>
 bite q209 (
 bnd (F.conv .i64 x0.2.2.2.1) fun v210=>
 bnd (F.and .i64 q3 4) fun v211=>
 bnd (F.gt v211 0) fun v212=>
 obind (code_fits v210 0 7 v212) fun q213=>
 bite q213 (
 bnd (F.and .i64 q3 8) fun v214=>
 bnd (F.gt v214 0) fun v215=>
 obind (code_fits x0.2.2.2.2 0 v197 v215) fun q216=>
 some q216) (
 some false)) (
 some false)) (
 some false)) (
 some false)) (
 some false)) (
 some false)) (
 bnd (F.gt q3 0) fun v217=>
 bite v217 (
 bnd (F.ge x1 0) fun v218=>
 bite v218 (
 bnd (F.lt x1 x2) fun v219=>
 bite v219 (
 bnd (F.conv .i64 x0.2.1) fun v220=>
 bnd (F.and .i64 q3 1) fun v221=>
 bnd (F.gt v221 0) fun v222=>
 obind (code_fits v220 0 7 v222) fun q223=>
 bite q223 (
 bnd (F.conv .i64 x0.2.2.1) fun v224=>
 bnd (F.and .i64 q3 2) fun v225=>
 bnd (F.gt v225 0) fun v226=>
 obind (code_fits v224 0 7 v226) fun q227=>
 bite q227 (
 bnd (F.conv .i64 x0.2.2.2.1) fun v228=>
 bnd (F.and .i64 q3 4) fun v229=>
 bnd (F.gt v229 0) fun v230=>
 obind (code_fits v228 0 7 v230) fun q231=>
 bite q231 (
 bnd (F.and .i64 q3 8) fun v232=>
 bnd (F.gt v232 0) fun v233=>
 obind (code_fits x0.2.2.2.2 0 v197 v233) fun q234=>
 some q234) (
 some false)) (
 some false)) (
 some false)) (
 some false)) (
 some false)) (
 some false))) (
 obind (code_asks x0) fun q235=>
 bite q235 (
 bnd (F.gt q3 0) fun v236=>
 bite v236 (
 bnd (F.ge x1 0) fun v237=>
 bite v237 (
 bnd (F.lt x1 x2) fun v238=>
 bite v238 (
 bnd (F.conv .i64 x0.2.1) fun v239=>
 bnd (F.and .i64 q3 1) fun v240=>
 bnd (F.gt v240 0) fun v241=>
 obind (code_fits v239 0 4 v241) fun q242=>
 bite q242 (
 bnd (F.conv .i64 x0.2.2.1) fun v243=>
 bnd (F.and .i64 q3 2) fun v244=>
 bnd (F.gt v244 0) fun v245=>
 obind (code_fits v243 0 7 v245) fun q246=>
 bite q246 (
 bnd (F.conv .i64 x0.2.2.2.1) fun v247=>
 bnd (F.and .i64 q3 4) fun v248=>
 bnd (F.gt v248 0) fun v249=>
 obind (code_fits v247 0 7 v249) fun q250=>
 bite q250 (
 bnd (F.and .i64 q3 8) fun v251=>
 bnd (F.gt v251 0) fun v252=>
 obind (code_fits x0.2.2.2.2 0 0 v252) fun q253=>
 some q253) (
 some false)) (
 some false)) (
 some false)) (
 some false)) (
 some false)) (
 some false)) (
 bnd (F.gt q3 0) fun v254=>
 bite v254 (
 bnd (F.ge x1 0) fun v255=>
 bite v255 (
 bnd (F.lt x1 x2) fun v256=>
 bite v256 (
 bnd (F.conv .i64 x0.2.1) fun v257=>
 bnd (F.and .i64 q3 1) fun v258=>
 bnd (F.gt v258 0) fun v259=>
 obind (code_fits v257 0 7 v259) fun q260=>
 bite q260 (
 bnd (F.conv .i64 x0.2.2.1) fun v261=>
 bnd (F.and .i64 q3 2) fun v262=>
 bnd (F.gt v262 0) fun v263=>
 obind (code_fits v261 0 7 v263) fun q264=>
 bite q264 (
 bnd (F.conv .i64 x0.2.2.2.1) fun v265=>
 bnd (F.and .i64 q3 4) fun v266=>
 bnd (F.gt v266 0) fun v267=>
 obind (code_fits v265 0 7 v267) fun q268=>
 bite q268 (
 bnd (F.and .i64 q3 8) fun v269=>
 bnd (F.gt v269 0) fun v270=>
 obind (code_fits x0.2.2.2.2 0 0 v270) fun q271=>
 some q271) (
 some false)) (
 some false)) (
 some false)) (
 some false)) (
 some false)) (
 some false))))))
noncomputable def code_Check_l1 (fl:Nat):Nat -> (List (Int × Int × Int × Int × Int)) -> (List (Int × Int × Int × Int × Int)) -> Int -> Int -> Option (((Unit) ⊕ (Unit)))
 | 0,_,_,_,_=>none
 | n + 1,x0,x1,x2,x3=>
 bnd (F.lt x3 x2) fun v4=>
 bite v4 (
 obind (F.get x1 x3) fun q5=>
 bnd (F.len x0) fun v6=>
 obind (code_One q5 x3 v6) fun q7=>
 bnd (F.not q7) fun v8=>
 bite v8 (
 some (.inl ())) (
 bnd (F.add .i64 x3 1) fun v9=>
 code_Check_l1 fl n x0 x1 x2 v9)) (
 some (.inr ()))
noncomputable def code_Check (fl:Nat) (x0:List (Int × Int × Int × Int × Int)):Option (Int):=
 bnd (F.len x0) fun v1=>
 bnd (F.eq v1 0) fun v2=>
 bite v2 (
 some 23) (
 bnd (F.len x0) fun v3=>
 bnd (F.gt v3 32) fun v4=>
 bite v4 (
 some 23) (
 bnd (F.len x0) fun v5=>
 obind (code_Check_l1 fl fl x0 x0 v5 0) fun q6=>
 osum q6 (fun s7=>
 some 23) (fun r8=>
 some 0)))
noncomputable def scene_Check_3 (fl:Nat) (x0:List (Int × Int × Int × Int × Int)):Option (Bool):=
 obind (code_Check fl x0) fun q1=>
 bnd (F.ne q1 0) fun v2=>
 some v2
noncomputable def slices_IndexFunc__4_l1 (fl:Nat):Nat -> T4 -> Unit -> Int -> Int -> Option (((Int × Unit) ⊕ (Unit)))
 | 0,_,_,_,_=>none
 | n + 1,x0,x1,x2,x3=>
 bnd (F.lt x3 x2) fun v4=>
 bite v4 (
 obind (F.get x0 x3) fun q5=>
 obind (scene_Check_3 fl q5) fun q6=>
 bite q6 (
 some (.inl (x3,()))) (
 bnd (F.add .i64 x3 1) fun v7=>
 slices_IndexFunc__4_l1 fl n x0 () x2 v7)) (
 some (.inr ()))
noncomputable def slices_IndexFunc__4 (fl:Nat) (x0:T4) (x1:Unit):Option (Int):=
 bnd (F.len x0) fun v2=>
 obind (slices_IndexFunc__4_l1 fl fl x0 () v2 0) fun q3=>
 osum q3 (fun s4=>
 some s4.1) (fun r5=>
 some (-1))
noncomputable def slices_ContainsFunc__4 (fl:Nat) (x0:T4) (x1:Unit):Option (Bool):=
 obind (slices_IndexFunc__4 fl x0 ()) fun q2=>
 bnd (F.ge q2 0) fun v3=>
 some v3
noncomputable def scene_within (x0 x1 x2:Int):Option (Bool):=
 bnd (F.ge x0 x1) fun v3=>
 bite v3 (
 bnd (F.lt x0 x2) fun v4=>
 some v4) (
 some false)
noncomputable def scene_names_l1 (fl:Nat):Nat -> (List T3) -> Int -> Int -> Int -> Int -> Int -> Int -> Int -> Int -> T2 -> T6 -> T4 -> (List T1) -> Int -> Int -> Int -> Bool -> (List T3) -> Option (((Unit) ⊕ (Int × Int × Int × Int × Int × Int × T2 × T6 × T4 × (List T1) × Int × Int × Int × Bool × (List T3) × Unit)))
 | 0,_,_,_,_,_,_,_,_,_,_,_,_,_,_,_,_,_,_=>none
 | n + 1,x0,x1,x2,x3,x4,x5,x6,x7,x8,x9,x10,x11,x12,x13,x14,x15,x16,x17=>
 bnd (F.lt x2 x1) fun v18=>
 bite v18 (
 obind (F.get x0 x2) fun q19=>
 obind (scene_within q19.1 0 10000) fun q20=>
 bnd (F.not q20) fun v21=>
 bite v21 (
 some (.inl ())) (
 bnd (F.min (F.min q19.2.1 q19.2.2.1) q19.2.2.2) fun v22=>
 bnd (F.len x9) fun v23=>
 obind (scene_within v22 0 v23) fun q24=>
 bnd (F.not q24) fun v25=>
 bite v25 (
 some (.inl ())) (
 bnd (F.max (F.max q19.2.1 q19.2.2.1) q19.2.2.2) fun v26=>
 bnd (F.len x9) fun v27=>
 bnd (F.ge v26 v27) fun v28=>
 bite v28 (
 some (.inl ())) (
 bnd (F.add .i64 x2 1) fun v29=>
 scene_names_l1 fl n x0 x1 v29 x3 x4 x5 x6 x7 x8 x9 x10 x11 x12 x13 x14 x15 x16 x17)))) (
 some (.inr (x3,(x4,(x5,(x6,(x7,(x8,(x9,(x10,(x11,(x12,(x13,(x14,(x15,(x16,(x17,())))))))))))))))))
noncomputable def slices_IndexFunc__5_l1 (fl:Nat):Nat -> (List (Int × Int × Int × Int × Int)) -> Unit -> Int -> Int -> Option (((Int × Unit) ⊕ (Unit)))
 | 0,_,_,_,_=>none
 | n + 1,x0,x1,x2,x3=>
 bnd (F.lt x3 x2) fun v4=>
 bite v4 (
 obind (F.get x0 x3) fun q5=>
 obind (code_asks q5) fun q6=>
 bite q6 (
 some (.inl (x3,()))) (
 bnd (F.add .i64 x3 1) fun v7=>
 slices_IndexFunc__5_l1 fl n x0 () x2 v7)) (
 some (.inr ()))
noncomputable def slices_IndexFunc__5 (fl:Nat) (x0:List (Int × Int × Int × Int × Int)) (x1:Unit):Option (Int):=
 bnd (F.len x0) fun v2=>
 obind (slices_IndexFunc__5_l1 fl fl x0 () v2 0) fun q3=>
 osum q3 (fun s4=>
 some s4.1) (fun r5=>
 some (-1))
noncomputable def slices_ContainsFunc__5 (fl:Nat) (x0:List (Int × Int × Int × Int × Int)) (x1:Unit):Option (Bool):=
 obind (slices_IndexFunc__5 fl x0 ()) fun q2=>
 bnd (F.ge q2 0) fun v3=>
 some v3
noncomputable def code_Samples (fl:Nat) (x0:List (Int × Int × Int × Int × Int)):Option (Bool):=
 obind (slices_ContainsFunc__5 fl x0 ()) fun q1=>
 some q1
noncomputable def scene_names (fl:Nat) (x0:Int × Int × T3 × T2 × T6 × T4 × List T1) (x1:T1):Option (Bool):=
 obind (scene_within x1.1 0 10000) fun q2=>
 bnd (F.not q2) fun v3=>
 bite v3 (
 some false) (
 bnd (F.len x0.2.2.2.2.2.1) fun v4=>
 obind (scene_within x1.2.1 0 v4) fun q5=>
 bnd (F.not q5) fun v6=>
 bite v6 (
 some false) (
 bnd (F.len x0.2.2.2.2.1) fun v7=>
 obind (scene_within x1.2.2.1 (-1) v7) fun q8=>
 bnd (F.not q8) fun v9=>
 bite v9 (
 some false) (
 bnd (F.len x1.2.2.2.2) fun v10=>
 obind (scene_names_l1 fl fl x1.2.2.2.2 v10 0 x0.1 x0.2.1 x0.2.2.1.1 x0.2.2.1.2.1 x0.2.2.1.2.2.1 x0.2.2.1.2.2.2 x0.2.2.2.1 x0.2.2.2.2.1 x0.2.2.2.2.2.1 x0.2.2.2.2.2.2 x1.1 x1.2.1 x1.2.2.1 x1.2.2.2.1 x1.2.2.2.2) fun q11=>
 osum q11 (fun s12=>
 some false) (fun r13=>
 bnd (F.ge r13.2.2.2.2.2.2.2.2.2.2.2.2.1 0) fun v14=>
 bite v14 (
 some true) (
 obind (F.get r13.2.2.2.2.2.2.2.2.1 r13.2.2.2.2.2.2.2.2.2.2.2.1) fun q15=>
 obind (code_Samples fl q15) fun q16=>
 bnd (F.not q16) fun v17=>
 some v17)))))
noncomputable def scene_Check_4 (x0 x1:T1):Option (Bool):=
 bnd (F.eq x0.1 x1.1) fun v2=>
 some v2
noncomputable def slices_IndexFunc__6_l1 (fl:Nat):Nat -> (List T1) -> T1 -> Int -> Int -> Option (((Int × Unit) ⊕ (Unit)))
 | 0,_,_,_,_=>none
 | n + 1,x0,x1,x2,x3=>
 bnd (F.lt x3 x2) fun v4=>
 bite v4 (
 obind (F.get x0 x3) fun q5=>
 obind (scene_Check_4 q5 x1) fun q6=>
 bite q6 (
 some (.inl (x3,()))) (
 bnd (F.add .i64 x3 1) fun v7=>
 slices_IndexFunc__6_l1 fl n x0 x1 x2 v7)) (
 some (.inr ()))
noncomputable def slices_IndexFunc__6 (fl:Nat) (x0:List T1) (x1:T1):Option (Int):=
 bnd (F.len x0) fun v2=>
 obind (slices_IndexFunc__6_l1 fl fl x0 x1 v2 0) fun q3=>
 osum q3 (fun s4=>
 some s4.1) (fun r5=>
 some (-1))
noncomputable def slices_ContainsFunc__6 (fl:Nat) (x0:List T1) (x1:T1):Option (Bool):=
 obind (slices_IndexFunc__6 fl x0 x1) fun q2=>
 bnd (F.ge q2 0) fun v3=>
 some v3
noncomputable def scene_twice (x0:T1):Option (Bool):=
 bnd (F.len x0.2.2.2.2) fun v1=>
 bnd (F.lt 0 v1) fun v2=>
 bite v2 (
 obind (F.get x0.2.2.2.2 0) fun q3=>
 none) (
 some false)
noncomputable def scene_Check_l1 (fl:Nat):Nat -> (List T1) -> Int -> Int -> Int -> Int -> Int -> Int -> Int -> Int -> T2 -> T6 -> T4 -> (List T1) -> Option (((Int × Unit) ⊕ (Unit)))
 | 0,_,_,_,_,_,_,_,_,_,_,_,_,_=>none
 | n + 1,x0,x1,x2,x3,x4,x5,x6,x7,x8,x9,x10,x11,x12=>
 bnd (F.lt x2 x1) fun v13=>
 bite v13 (
 obind (F.get x0 x2) fun q14=>
 obind (scene_names fl (x3,(x4,((x5,(x6,(x7,x8))),(x9,(x10,(x11,x12)))))) q14) fun q15=>
 bnd (F.not q15) fun v16=>
 bite v16 (
 some (.inl (24,()))) (
 bgd (F.both (F.cutOk x12 0 x2) (F.eq x2 x2)) (
 bnd (F.cut x12 0 x2) fun v17=>
 obind (slices_ContainsFunc__6 fl v17 q14) fun q18=>
 bite q18 (
 some (.inl (25,()))) (
 obind (scene_twice q14) fun q19=>
 bite q19 (
 some (.inl (25,()))) (
 bnd (F.add .i64 x2 1) fun v20=>
 scene_Check_l1 fl n x0 x1 v20 x3 x4 x5 x6 x7 x8 x9 x10 x11 x12))))) (
 some (.inr ()))
noncomputable def scene_Check (fl:Nat) (x0:Int × Int × T3 × T2 × T6 × T4 × List T1):Option (Int):=
 bnd (F.min x0.1 x0.2.1) fun v1=>
 bnd (F.lt v1 1) fun v2=>
 bite v2 (
 some 20) (
 bnd (F.max x0.1 x0.2.1) fun v3=>
 bnd (F.gt v3 64) fun v4=>
 bite v4 (
 some 20) (
 obind (colour_Right x0.2.2.1) fun q5=>
 bnd (F.not q5) fun v6=>
 bite v6 (
 some 1) (
 obind (scene_counts fl x0) fun q7=>
 bnd (F.not q7) fun v8=>
 bite v8 (
 some 26) (
 obind (slices_ContainsFunc__2 fl x0.2.2.2.1 ()) fun q9=>
 bite q9 (
 some 21) (
 obind (slices_ContainsFunc__3 fl x0.2.2.2.2.1 ()) fun q10=>
 bite q10 (
 some 22) (
 obind (slices_ContainsFunc__4 fl x0.2.2.2.2.2.1 ()) fun q11=>
 bite q11 (
 some 23) (
 bnd (F.len x0.2.2.2.2.2.2) fun v12=>
 obind (scene_Check_l1 fl fl x0.2.2.2.2.2.2 v12 0 x0.1 x0.2.1 x0.2.2.1.1 x0.2.2.1.2.1 x0.2.2.1.2.2.1 x0.2.2.1.2.2.2 x0.2.2.2.1 x0.2.2.2.2.1 x0.2.2.2.2.2.1 x0.2.2.2.2.2.2) fun q13=>
 osum q13 (fun s14=>
 some s14.1) (fun r15=>
 some 0))))))))
noncomputable def frags_New (x0:Int × Int × T3 × T2 × T6 × T4 × List T1):Option (Int × Int × Int × Int × Int × Int × T2 × T6 × T4 × (List T1) × Unit):=
 some (x0.1,(x0.2.1,(x0.2.2.1.1,(x0.2.2.1.2.1,(x0.2.2.1.2.2.1,(x0.2.2.1.2.2.2,(x0.2.2.2.1,(x0.2.2.2.2.1,(x0.2.2.2.2.2.1,(x0.2.2.2.2.2.2,()))))))))))
noncomputable def prepass_New_1 (x0:Int):Option (Int):=
 bnd (F.max x0 0) fun v1=>
 bnd (F.min v1 64) fun v2=>
 some v2
noncomputable def prepass_New (x0 x1:Int):Option (Int × Int × Unit):=
 obind (prepass_New_1 x0) fun q2=>
 obind (prepass_New_1 x1) fun q3=>
 some (q2,(q3,()))
noncomputable def frags_Maker__parts (x0:Int × Int × Int × Int × Int × Int × T2 × T6 × T4 × (List T1) × Int × Int) (x1:T3):Option (List (Int × (Int × Int × Int × Int × Int × Int × Int) × (Int × Int × Int × Int × Int × Int × Int) × Int × Int × Int × Int × Int × Int × Int)):=
 none
noncomputable def frame_Render_i79_l1 (fl:Nat):Nat -> Int -> (List T1) -> Int -> Int -> Int -> Int -> Int -> Int -> Int -> Int -> Int -> Int -> Int -> Int -> T2 -> T6 -> T4 -> (List T1) -> Int -> Int -> Int -> Int -> Int -> Int -> Int -> Int -> T2 -> T6 -> T4 -> (List T1) -> Int -> Int -> Int -> Int -> Int -> Int -> T2 -> T6 -> T4 -> (List T1) -> Int -> Int -> Int -> Int -> Int -> Int -> T2 -> T6 -> T4 -> (List T1) -> Int -> Int -> Int -> Int -> Int -> Int -> Int -> Int -> T2 -> T6 -> T4 -> (List T1) -> Int -> Int -> Int -> Int -> (List T3) -> Int -> Int -> Option ((List T1) × Int × Int × Int × Int × Int × Int × Int × Int × Int × Int × T2 × T6 × T4 × (List T1) × Int × Int × Int × Int × Int × Int × Int × Int × T2 × T6 × T4 × (List T1) × Int × Int × Int × Int × Int × Int × T2 × T6 × T4 × (List T1) × Int × Int × Int × Int × Int × Int × T2 × T6 × T4 × (List T1) × Int × Int × Int × Int × Int × Int × Int × Int × T2 × T6 × T4 × (List T1) × Int × Int × Int × Int × (List T3) × Int × Int × Unit)
 | 0,_,_,_,_,_,_,_,_,_,_,_,_,_,_,_,_,_,_,_,_,_,_,_,_,_,_,_,_,_,_,_,_,_,_,_,_,_,_,_,_,_,_,_,_,_,_,_,_,_,_,_,_,_,_,_,_,_,_,_,_,_,_,_,_,_,_,_,_,_=>none
 | n + 1,x0,x1,x2,x3,x4,x5,x6,x7,x8,x9,x10,x11,x12,x13,x14,x15,x16,x17,x18,x19,x20,x21,x22,x23,x24,x25,x26,x27,x28,x29,x30,x31,x32,x33,x34,x35,x36,x37,x38,x39,x40,x41,x42,x43,x44,x45,x46,x47,x48,x49,x50,x51,x52,x53,x54,x55,x56,x57,x58,x59,x60,x61,x62,x63,x64,x65,x66,x67,x68=>
 bnd (F.lt x5 x4) fun v69=>
 bite v69 (
 obind (F.get x49 x0) fun q70=>
 bnd (F.bne q70.2.2.2.1 true) fun v71=>
 bite v71 (
 bnd (F.add .i64 x5 1) fun v72=>
 frame_Render_i79_l1 fl n x0 x1 x2 x3 x4 v72 x6 x7 x8 x9 x10 x11 x12 x13 x14 x15 x16 x17 x18 x19 x20 x21 x22 x23 x24 x25 x26 x27 x28 x29 x30 x31 x32 x33 x34 x35 x36 x37 x38 x39 x40 x41 x42 x43 x44 x45 x46 x47 x48 x49 x50 x51 x52 x53 x54 x55 x56 x57 x58 x59 x60 x61 x62 x63 x64 x65 x66 x67 x68) (
 obind (F.get q70.2.2.2.2 x5) fun q73=>
 none)) (
 some (x1,(x2,(x3,(x6,(x7,(x8,(x9,(x10,(x11,(x12,(x13,(x14,(x15,(x16,(x17,(x18,(x19,(x20,(x21,(x22,(x23,(x24,(x25,(x26,(x27,(x28,(x29,(x30,(x31,(x32,(x33,(x34,(x35,(x36,(x37,(x38,(x39,(x40,(x41,(x42,(x43,(x44,(x45,(x46,(x47,(x48,(x49,(x50,(x51,(x52,(x53,(x54,(x55,(x56,(x57,(x58,(x59,(x60,(x61,(x62,(x63,(x64,(x65,(x66,(x67,(x68,())))))))))))))))))))))))))))))))))))))))))))))))))))))))))))))))))))
noncomputable def frame_Render_i79_l2 (fl:Nat):Nat -> (List T1) -> Int -> Int -> Int -> Int -> Int -> Int -> Int -> Int -> Int -> Int -> T2 -> T6 -> T4 -> (List T1) -> Int -> Int -> Int -> Int -> Int -> Int -> Int -> Int -> T2 -> T6 -> T4 -> (List T1) -> Int -> Int -> Int -> Int -> Int -> Int -> T2 -> T6 -> T4 -> (List T1) -> Int -> Int -> Int -> Int -> Int -> Int -> T2 -> T6 -> T4 -> (List T1) -> Int -> Int -> Int -> Int -> Int -> Int -> Int -> Int -> T2 -> T6 -> T4 -> (List T1) -> Int -> Int -> Int -> Int -> (List T3) -> Int -> Int -> Option (Int × Int × Int × Int × Int × Int × Int × Int × T2 × T6 × T4 × (List T1) × Int × Int × Int × Int × Int × Int × Int × Int × T2 × T6 × T4 × (List T1) × Int × Int × Int × Int × Int × Int × T2 × T6 × T4 × (List T1) × Int × Int × Int × Int × Int × Int × T2 × T6 × T4 × (List T1) × Int × Int × Int × Int × Int × Int × Int × Int × T2 × T6 × T4 × (List T1) × Int × Int × Int × Int × (List T3) × Int × Int × Unit)
 | 0,_,_,_,_,_,_,_,_,_,_,_,_,_,_,_,_,_,_,_,_,_,_,_,_,_,_,_,_,_,_,_,_,_,_,_,_,_,_,_,_,_,_,_,_,_,_,_,_,_,_,_,_,_,_,_,_,_,_,_,_,_,_,_,_,_,_=>none
 | n + 1,x0,x1,x2,x3,x4,x5,x6,x7,x8,x9,x10,x11,x12,x13,x14,x15,x16,x17,x18,x19,x20,x21,x22,x23,x24,x25,x26,x27,x28,x29,x30,x31,x32,x33,x34,x35,x36,x37,x38,x39,x40,x41,x42,x43,x44,x45,x46,x47,x48,x49,x50,x51,x52,x53,x54,x55,x56,x57,x58,x59,x60,x61,x62,x63,x64,x65=>
 bnd (F.lt x2 x1) fun v66=>
 bite v66 (
 obind (F.get x0 x2) fun q67=>
 bnd (F.len q67.2.2.2.2) fun v68=>
 obind (frame_Render_i79_l1 fl fl x2 x0 x1 x2 v68 0 x3 x4 x5 x6 x7 x8 x9 x10 x11 x12 x13 x14 x15 x16 x17 x18 x19 x20 x21 x22 x23 x24 x25 x26 x27 x28 x29 x30 x31 x32 x33 x34 x35 x36 x37 x38 x39 x40 x41 x42 x43 x44 x45 x46 x47 x48 x49 x50 x51 x52 x53 x54 x55 x56 x57 x58 x59 x60 x61 x62 x63 x64 x65) fun q69=>
 bnd (F.add .i64 q69.2.2.1 1) fun v70=>
 frame_Render_i79_l2 fl n q69.1 q69.2.1 v70 q69.2.2.2.1 q69.2.2.2.2.1 q69.2.2.2.2.2.1 q69.2.2.2.2.2.2.1 q69.2.2.2.2.2.2.2.1 q69.2.2.2.2.2.2.2.2.1 q69.2.2.2.2.2.2.2.2.2.1 q69.2.2.2.2.2.2.2.2.2.2.1 q69.2.2.2.2.2.2.2.2.2.2.2.1 q69.2.2.2.2.2.2.2.2.2.2.2.2.1 q69.2.2.2.2.2.2.2.2.2.2.2.2.2.1 q69.2.2.2.2.2.2.2.2.2.2.2.2.2.2.1 q69.2.2.2.2.2.2.2.2.2.2.2.2.2.2.2.1 q69.2.2.2.2.2.2.2.2.2.2.2.2.2.2.2.2.1 q69.2.2.2.2.2.2.2.2.2.2.2.2.2.2.2.2.2.1 q69.2.2.2.2.2.2.2.2.2.2.2.2.2.2.2.2.2.2.1 q69.2.2.2.2.2.2.2.2.2.2.2.2.2.2.2.2.2.2.2.1 q69.2.2.2.2.2.2.2.2.2.2.2.2.2.2.2.2.2.2.2.2.1 q69.2.2.2.2.2.2.2.2.2.2.2.2.2.2.2.2.2.2.2.2.2.1 q69.2.2.2.2.2.2.2.2.2.2.2.2.2.2.2.2.2.2.2.2.2.2.1 q69.2.2.2.2.2.2.2.2.2.2.2.2.2.2.2.2.2.2.2.2.2.2.2.1 q69.2.2.2.2.2.2.2.2.2.2.2.2.2.2.2.2.2.2.2.2.2.2.2.2.1 q69.2.2.2.2.2.2.2.2.2.2.2.2.2.2.2.2.2.2.2.2.2.2.2.2.2.1 q69.2.2.2.2.2.2.2.2.2.2.2.2.2.2.2.2.2.2.2.2.2.2.2.2.2.2.1 q69.2.2.2.2.2.2.2.2.2.2.2.2.2.2.2.2.2.2.2.2.2.2.2.2.2.2.2.1 q69.2.2.2.2.2.2.2.2.2.2.2.2.2.2.2.2.2.2.2.2.2.2.2.2.2.2.2.2.1 q69.2.2.2.2.2.2.2.2.2.2.2.2.2.2.2.2.2.2.2.2.2.2.2.2.2.2.2.2.2.1 q69.2.2.2.2.2.2.2.2.2.2.2.2.2.2.2.2.2.2.2.2.2.2.2.2.2.2.2.2.2.2.1 q69.2.2.2.2.2.2.2.2.2.2.2.2.2.2.2.2.2.2.2.2.2.2.2.2.2.2.2.2.2.2.2.1 q69.2.2.2.2.2.2.2.2.2.2.2.2.2.2.2.2.2.2.2.2.2.2.2.2.2.2.2.2.2.2.2.2.1 q69.2.2.2.2.2.2.2.2.2.2.2.2.2.2.2.2.2.2.2.2.2.2.2.2.2.2.2.2.2.2.2.2.2.1 q69.2.2.2.2.2.2.2.2.2.2.2.2.2.2.2.2.2.2.2.2.2.2.2.2.2.2.2.2.2.2.2.2.2.2.1 q69.2.2.2.2.2.2.2.2.2.2.2.2.2.2.2.2.2.2.2.2.2.2.2.2.2.2.2.2.2.2.2.2.2.2.2.1 q69.2.2.2.2.2.2.2.2.2.2.2.2.2.2.2.2.2.2.2.2.2.2.2.2.2.2.2.2.2.2.2.2.2.2.2.2.1 q69.2.2.2.2.2.2.2.2.2.2.2.2.2.2.2.2.2.2.2.2.2.2.2.2.2.2.2.2.2.2.2.2.2.2.2.2.2.1 q69.2.2.2.2.2.2.2.2.2.2.2.2.2.2.2.2.2.2.2.2.2.2.2.2.2.2.2.2.2.2.2.2.2.2.2.2.2.2.1 q69.2.2.2.2.2.2.2.2.2.2.2.2.2.2.2.2.2.2.2.2.2.2.2.2.2.2.2.2.2.2.2.2.2.2.2.2.2.2.2.1 q69.2.2.2.2.2.2.2.2.2.2.2.2.2.2.2.2.2.2.2.2.2.2.2.2.2.2.2.2.2.2.2.2.2.2.2.2.2.2.2.2.1 q69.2.2.2.2.2.2.2.2.2.2.2.2.2.2.2.2.2.2.2.2.2.2.2.2.2.2.2.2.2.2.2.2.2.2.2.2.2.2.2.2.2.1 q69.2.2.2.2.2.2.2.2.2.2.2.2.2.2.2.2.2.2.2.2.2.2.2.2.2.2.2.2.2.2.2.2.2.2.2.2.2.2.2.2.2.2.1 q69.2.2.2.2.2.2.2.2.2.2.2.2.2.2.2.2.2.2.2.2.2.2.2.2.2.2.2.2.2.2.2.2.2.2.2.2.2.2.2.2.2.2.2.1 q69.2.2.2.2.2.2.2.2.2.2.2.2.2.2.2.2.2.2.2.2.2.2.2.2.2.2.2.2.2.2.2.2.2.2.2.2.2.2.2.2.2.2.2.2.1 q69.2.2.2.2.2.2.2.2.2.2.2.2.2.2.2.2.2.2.2.2.2.2.2.2.2.2.2.2.2.2.2.2.2.2.2.2.2.2.2.2.2.2.2.2.2.1 q69.2.2.2.2.2.2.2.2.2.2.2.2.2.2.2.2.2.2.2.2.2.2.2.2.2.2.2.2.2.2.2.2.2.2.2.2.2.2.2.2.2.2.2.2.2.2.1 q69.2.2.2.2.2.2.2.2.2.2.2.2.2.2.2.2.2.2.2.2.2.2.2.2.2.2.2.2.2.2.2.2.2.2.2.2.2.2.2.2.2.2.2.2.2.2.2.1 q69.2.2.2.2.2.2.2.2.2.2.2.2.2.2.2.2.2.2.2.2.2.2.2.2.2.2.2.2.2.2.2.2.2.2.2.2.2.2.2.2.2.2.2.2.2.2.2.2.1 q69.2.2.2.2.2.2.2.2.2.2.2.2.2.2.2.2.2.2.2.2.2.2.2.2.2.2.2.2.2.2.2.2.2.2.2.2.2.2.2.2.2.2.2.2.2.2.2.2.2.1 q69.2.2.2.2.2.2.2.2.2.2.2.2.2.2.2.2.2.2.2.2.2.2.2.2.2.2.2.2.2.2.2.2.2.2.2.2.2.2.2.2.2.2.2.2.2.2.2.2.2.2.1 q69.2.2.2.2.2.2.2.2.2.2.2.2.2.2.2.2.2.2.2.2.2.2.2.2.2.2.2.2.2.2.2.2.2.2.2.2.2.2.2.2.2.2.2.2.2.2.2.2.2.2.2.1 q69.2.2.2.2.2.2.2.2.2.2.2.2.2.2.2.2.2.2.2.2.2.2.2.2.2.2.2.2.2.2.2.2.2.2.2.2.2.2.2.2.2.2.2.2.2.2.2.2.2.2.2.2.1 q69.2.2.2.2.2.2.2.2.2.2.2.2.2.2.2.2.2.2.2.2.2.2.2.2.2.2.2.2.2.2.2.2.2.2.2.2.2.2.2.2.2.2.2.2.2.2.2.2.2.2.2.2.2.1 q69.2.2.2.2.2.2.2.2.2.2.2.2.2.2.2.2.2.2.2.2.2.2.2.2.2.2.2.2.2.2.2.2.2.2.2.2.2.2.2.2.2.2.2.2.2.2.2.2.2.2.2.2.2.2.1 q69.2.2.2.2.2.2.2.2.2.2.2.2.2.2.2.2.2.2.2.2.2.2.2.2.2.2.2.2.2.2.2.2.2.2.2.2.2.2.2.2.2.2.2.2.2.2.2.2.2.2.2.2.2.2.2.1 q69.2.2.2.2.2.2.2.2.2.2.2.2.2.2.2.2.2.2.2.2.2.2.2.2.2.2.2.2.2.2.2.2.2.2.2.2.2.2.2.2.2.2.2.2.2.2.2.2.2.2.2.2.2.2.2.2.1 q69.2.2.2.2.2.2.2.2.2.2.2.2.2.2.2.2.2.2.2.2.2.2.2.2.2.2.2.2.2.2.2.2.2.2.2.2.2.2.2.2.2.2.2.2.2.2.2.2.2.2.2.2.2.2.2.2.2.1 q69.2.2.2.2.2.2.2.2.2.2.2.2.2.2.2.2.2.2.2.2.2.2.2.2.2.2.2.2.2.2.2.2.2.2.2.2.2.2.2.2.2.2.2.2.2.2.2.2.2.2.2.2.2.2.2.2.2.2.1 q69.2.2.2.2.2.2.2.2.2.2.2.2.2.2.2.2.2.2.2.2.2.2.2.2.2.2.2.2.2.2.2.2.2.2.2.2.2.2.2.2.2.2.2.2.2.2.2.2.2.2.2.2.2.2.2.2.2.2.2.1 q69.2.2.2.2.2.2.2.2.2.2.2.2.2.2.2.2.2.2.2.2.2.2.2.2.2.2.2.2.2.2.2.2.2.2.2.2.2.2.2.2.2.2.2.2.2.2.2.2.2.2.2.2.2.2.2.2.2.2.2.2.1 q69.2.2.2.2.2.2.2.2.2.2.2.2.2.2.2.2.2.2.2.2.2.2.2.2.2.2.2.2.2.2.2.2.2.2.2.2.2.2.2.2.2.2.2.2.2.2.2.2.2.2.2.2.2.2.2.2.2.2.2.2.2.1 q69.2.2.2.2.2.2.2.2.2.2.2.2.2.2.2.2.2.2.2.2.2.2.2.2.2.2.2.2.2.2.2.2.2.2.2.2.2.2.2.2.2.2.2.2.2.2.2.2.2.2.2.2.2.2.2.2.2.2.2.2.2.2.1 q69.2.2.2.2.2.2.2.2.2.2.2.2.2.2.2.2.2.2.2.2.2.2.2.2.2.2.2.2.2.2.2.2.2.2.2.2.2.2.2.2.2.2.2.2.2.2.2.2.2.2.2.2.2.2.2.2.2.2.2.2.2.2.2.1 q69.2.2.2.2.2.2.2.2.2.2.2.2.2.2.2.2.2.2.2.2.2.2.2.2.2.2.2.2.2.2.2.2.2.2.2.2.2.2.2.2.2.2.2.2.2.2.2.2.2.2.2.2.2.2.2.2.2.2.2.2.2.2.2.2.1 q69.2.2.2.2.2.2.2.2.2.2.2.2.2.2.2.2.2.2.2.2.2.2.2.2.2.2.2.2.2.2.2.2.2.2.2.2.2.2.2.2.2.2.2.2.2.2.2.2.2.2.2.2.2.2.2.2.2.2.2.2.2.2.2.2.2.1) (
 some (x3,(x4,(x5,(x6,(x7,(x8,(x9,(x10,(x11,(x12,(x13,(x14,(x15,(x16,(x17,(x18,(x19,(x20,(x21,(x22,(x23,(x24,(x25,(x26,(x27,(x28,(x29,(x30,(x31,(x32,(x33,(x34,(x35,(x36,(x37,(x38,(x39,(x40,(x41,(x42,(x43,(x44,(x45,(x46,(x47,(x48,(x49,(x50,(x51,(x52,(x53,(x54,(x55,(x56,(x57,(x58,(x59,(x60,(x61,(x62,(x63,(x64,(x65,()))))))))))))))))))))))))))))))))))))))))))))))))))))))))))))))))
noncomputable def frame_Tiles_l1 (fl:Nat):Nat -> Int -> Int -> Int -> (List T3) -> Int -> Int -> Option (Int × Int × Int × (List T3) × Int × Unit)
 | 0,_,_,_,_,_,_=>none
 | n + 1,x0,x1,x2,x3,x4,x5=>
 bnd (F.lt x5 x0) fun v6=>
 bite v6 (
 bnd (F.add .i64 x5 x2) fun v7=>
 bnd (F.min v7 x0) fun v8=>
 bnd (F.add .i64 x4 x2) fun v9=>
 bnd (F.min v9 x1) fun v10=>
 bgd (F.appOk 32 x3 [(x5,(x4,(v8,v10)))]) (
 bnd (F.app x3 [(x5,(x4,(v8,v10)))]) fun v11=>
 bnd (F.add .i64 x5 x2) fun v12=>
 frame_Tiles_l1 fl n x0 x1 x2 v11 x4 v12)) (
 some (x0,(x1,(x2,(x3,(x4,()))))))
noncomputable def frame_Tiles_l2 (fl:Nat):Nat -> Int -> Int -> Int -> (List T3) -> Int -> Option ((List T3) × Unit)
 | 0,_,_,_,_,_=>none
 | n + 1,x0,x1,x2,x3,x4=>
 bnd (F.lt x4 x1) fun v5=>
 bite v5 (
 obind (frame_Tiles_l1 fl fl x0 x1 x2 x3 x4 0) fun q6=>
 bnd (F.add .i64 q6.2.2.2.2.1 q6.2.2.1) fun v7=>
 frame_Tiles_l2 fl n q6.1 q6.2.1 q6.2.2.1 q6.2.2.2.1 v7) (
 some (x3,()))
noncomputable def frame_Tiles (fl:Nat) (x0 x1 x2:Int):Option (List T3):=
 obind (frame_Tiles_l2 fl fl x0 x1 x2 [] 0) fun q3=>
 some q3.1
noncomputable def pool_New (x0:Int):Option (Int × Unit):=
 bnd (F.max x0 0) fun v1=>
 bnd (F.min v1 65536) fun v2=>
 some (v2,())
noncomputable def frame_Render_i79_l3 (fl:Nat):Nat -> Int -> (List T1) -> Int -> Int -> Int -> Int -> Int -> Int -> (List T3) -> Int -> Int -> Int -> Int -> Int -> Int -> Int -> Int -> Int -> T2 -> T6 -> T4 -> (List T1) -> Int -> Int -> Int -> Int -> Int -> Int -> Int -> Int -> Int -> Int -> Int -> Int -> Int -> Int -> Int -> Int -> Int -> Int -> Int -> Int -> Int -> Int -> Int -> Int -> Int -> Int -> Int -> T2 -> T6 -> T4 -> (List T1) -> Int -> Int -> Int -> Int -> Int -> Int -> Int -> Int -> T2 -> T6 -> T4 -> (List T1) -> Int -> Int -> Int -> Int -> (List T3) -> Option ((List T1) × Int × Int × Int × Int × (List T3) × Int × Int × Int × Int × Int × Int × Int × Int × Int × T2 × T6 × T4 × (List T1) × Int × Int × Int × Int × Int × Int × Int × Int × Int × Int × Int × Int × Int × Int × Int × Int × Int × Int × Int × Int × Int × Int × Int × Int × Int × Int × Int × T2 × T6 × T4 × (List T1) × Int × Int × Int × Int × Int × Int × Int × Int × T2 × T6 × T4 × (List T1) × Int × Int × Int × Int × (List T3) × Unit)
 | 0,_,_,_,_,_,_,_,_,_,_,_,_,_,_,_,_,_,_,_,_,_,_,_,_,_,_,_,_,_,_,_,_,_,_,_,_,_,_,_,_,_,_,_,_,_,_,_,_,_,_,_,_,_,_,_,_,_,_,_,_,_,_,_,_,_,_,_,_,_,_=>none
 | n + 1,x0,x1,x2,x3,x4,x5,x6,x7,x8,x9,x10,x11,x12,x13,x14,x15,x16,x17,x18,x19,x20,x21,x22,x23,x24,x25,x26,x27,x28,x29,x30,x31,x32,x33,x34,x35,x36,x37,x38,x39,x40,x41,x42,x43,x44,x45,x46,x47,x48,x49,x50,x51,x52,x53,x54,x55,x56,x57,x58,x59,x60,x61,x62,x63,x64,x65,x66,x67,x68,x69=>
 bnd (F.lt x5 x4) fun v70=>
 bite v70 (
 obind (F.get x52 x0) fun q71=>
 bnd (F.bne q71.2.2.2.1 false) fun v72=>
 bite v72 (
 bnd (F.add .i64 x5 1) fun v73=>
 frame_Render_i79_l3 fl n x0 x1 x2 x3 x4 v73 x6 x7 x8 x9 x10 x11 x12 x13 x14 x15 x16 x17 x18 x19 x20 x21 x22 x23 x24 x25 x26 x27 x28 x29 x30 x31 x32 x33 x34 x35 x36 x37 x38 x39 x40 x41 x42 x43 x44 x45 x46 x47 x48 x49 x50 x51 x52 x53 x54 x55 x56 x57 x58 x59 x60 x61 x62 x63 x64 x65 x66 x67 x68 x69) (
 obind (F.get q71.2.2.2.2 x5) fun q74=>
 none)) (
 some (x1,(x2,(x3,(x6,(x7,(x8,(x9,(x10,(x11,(x12,(x13,(x14,(x15,(x16,(x17,(x18,(x19,(x20,(x21,(x22,(x23,(x24,(x25,(x26,(x27,(x28,(x29,(x30,(x31,(x32,(x33,(x34,(x35,(x36,(x37,(x38,(x39,(x40,(x41,(x42,(x43,(x44,(x45,(x46,(x47,(x48,(x49,(x50,(x51,(x52,(x53,(x54,(x55,(x56,(x57,(x58,(x59,(x60,(x61,(x62,(x63,(x64,(x65,(x66,(x67,(x68,(x69,()))))))))))))))))))))))))))))))))))))))))))))))))))))))))))))))))))))
noncomputable def frame_Render_i79_l4 (fl:Nat):Nat -> (List T1) -> Int -> Int -> Int -> Int -> (List T3) -> Int -> Int -> Int -> Int -> Int -> Int -> Int -> Int -> Int -> T2 -> T6 -> T4 -> (List T1) -> Int -> Int -> Int -> Int -> Int -> Int -> Int -> Int -> Int -> Int -> Int -> Int -> Int -> Int -> Int -> Int -> Int -> Int -> Int -> Int -> Int -> Int -> Int -> Int -> Int -> Int -> Int -> T2 -> T6 -> T4 -> (List T1) -> Int -> Int -> Int -> Int -> Int -> Int -> Int -> Int -> T2 -> T6 -> T4 -> (List T1) -> Int -> Int -> Int -> Int -> (List T3) -> Option (Int × Int × (List T3) × Int × Int × Int × Int × Int × Int × Int × Int × Int × T2 × T6 × T4 × (List T1) × Int × Int × Int × Int × Int × Int × Int × Int × Int × Int × Int × Int × Int × Int × Int × Int × Int × Int × Int × Int × Int × Int × Int × Int × Int × Int × Int × T2 × T6 × T4 × (List T1) × Int × Int × Int × Int × Int × Int × Int × Int × T2 × T6 × T4 × (List T1) × Int × Int × Int × Int × (List T3) × Unit)
 | 0,_,_,_,_,_,_,_,_,_,_,_,_,_,_,_,_,_,_,_,_,_,_,_,_,_,_,_,_,_,_,_,_,_,_,_,_,_,_,_,_,_,_,_,_,_,_,_,_,_,_,_,_,_,_,_,_,_,_,_,_,_,_,_,_,_,_,_=>none
 | n + 1,x0,x1,x2,x3,x4,x5,x6,x7,x8,x9,x10,x11,x12,x13,x14,x15,x16,x17,x18,x19,x20,x21,x22,x23,x24,x25,x26,x27,x28,x29,x30,x31,x32,x33,x34,x35,x36,x37,x38,x39,x40,x41,x42,x43,x44,x45,x46,x47,x48,x49,x50,x51,x52,x53,x54,x55,x56,x57,x58,x59,x60,x61,x62,x63,x64,x65,x66=>
 bnd (F.lt x2 x1) fun v67=>
 bite v67 (
 obind (F.get x0 x2) fun q68=>
 bnd (F.len q68.2.2.2.2) fun v69=>
 obind (frame_Render_i79_l3 fl fl x2 x0 x1 x2 v69 0 x3 x4 x5 x6 x7 x8 x9 x10 x11 x12 x13 x14 x15 x16 x17 x18 x19 x20 x21 x22 x23 x24 x25 x26 x27 x28 x29 x30 x31 x32 x33 x34 x35 x36 x37 x38 x39 x40 x41 x42 x43 x44 x45 x46 x47 x48 x49 x50 x51 x52 x53 x54 x55 x56 x57 x58 x59 x60 x61 x62 x63 x64 x65 x66) fun q70=>
 bnd (F.add .i64 q70.2.2.1 1) fun v71=>
 frame_Render_i79_l4 fl n q70.1 q70.2.1 v71 q70.2.2.2.1 q70.2.2.2.2.1 q70.2.2.2.2.2.1 q70.2.2.2.2.2.2.1 q70.2.2.2.2.2.2.2.1 q70.2.2.2.2.2.2.2.2.1 q70.2.2.2.2.2.2.2.2.2.1 q70.2.2.2.2.2.2.2.2.2.2.1 q70.2.2.2.2.2.2.2.2.2.2.2.1 q70.2.2.2.2.2.2.2.2.2.2.2.2.1 q70.2.2.2.2.2.2.2.2.2.2.2.2.2.1 q70.2.2.2.2.2.2.2.2.2.2.2.2.2.2.1 q70.2.2.2.2.2.2.2.2.2.2.2.2.2.2.2.1 q70.2.2.2.2.2.2.2.2.2.2.2.2.2.2.2.2.1 q70.2.2.2.2.2.2.2.2.2.2.2.2.2.2.2.2.2.1 q70.2.2.2.2.2.2.2.2.2.2.2.2.2.2.2.2.2.2.1 q70.2.2.2.2.2.2.2.2.2.2.2.2.2.2.2.2.2.2.2.1 q70.2.2.2.2.2.2.2.2.2.2.2.2.2.2.2.2.2.2.2.2.1 q70.2.2.2.2.2.2.2.2.2.2.2.2.2.2.2.2.2.2.2.2.2.1 q70.2.2.2.2.2.2.2.2.2.2.2.2.2.2.2.2.2.2.2.2.2.2.1 q70.2.2.2.2.2.2.2.2.2.2.2.2.2.2.2.2.2.2.2.2.2.2.2.1 q70.2.2.2.2.2.2.2.2.2.2.2.2.2.2.2.2.2.2.2.2.2.2.2.2.1 q70.2.2.2.2.2.2.2.2.2.2.2.2.2.2.2.2.2.2.2.2.2.2.2.2.2.1 q70.2.2.2.2.2.2.2.2.2.2.2.2.2.2.2.2.2.2.2.2.2.2.2.2.2.2.1 q70.2.2.2.2.2.2.2.2.2.2.2.2.2.2.2.2.2.2.2.2.2.2.2.2.2.2.2.1 q70.2.2.2.2.2.2.2.2.2.2.2.2.2.2.2.2.2.2.2.2.2.2.2.2.2.2.2.2.1 q70.2.2.2.2.2.2.2.2.2.2.2.2.2.2.2.2.2.2.2.2.2.2.2.2.2.2.2.2.2.1 q70.2.2.2.2.2.2.2.2.2.2.2.2.2.2.2.2.2.2.2.2.2.2.2.2.2.2.2.2.2.2.1 q70.2.2.2.2.2.2.2.2.2.2.2.2.2.2.2.2.2.2.2.2.2.2.2.2.2.2.2.2.2.2.2.1 q70.2.2.2.2.2.2.2.2.2.2.2.2.2.2.2.2.2.2.2.2.2.2.2.2.2.2.2.2.2.2.2.2.1 q70.2.2.2.2.2.2.2.2.2.2.2.2.2.2.2.2.2.2.2.2.2.2.2.2.2.2.2.2.2.2.2.2.2.1 q70.2.2.2.2.2.2.2.2.2.2.2.2.2.2.2.2.2.2.2.2.2.2.2.2.2.2.2.2.2.2.2.2.2.2.1 q70.2.2.2.2.2.2.2.2.2.2.2.2.2.2.2.2.2.2.2.2.2.2.2.2.2.2.2.2.2.2.2.2.2.2.2.1 q70.2.2.2.2.2.2.2.2.2.2.2.2.2.2.2.2.2.2.2.2.2.2.2.2.2.2.2.2.2.2.2.2.2.2.2.2.1 q70.2.2.2.2.2.2.2.2.2.2.2.2.2.2.2.2.2.2.2.2.2.2.2.2.2.2.2.2.2.2.2.2.2.2.2.2.2.1 q70.2.2.2.2.2.2.2.2.2.2.2.2.2.2.2.2.2.2.2.2.2.2.2.2.2.2.2.2.2.2.2.2.2.2.2.2.2.2.1 q70.2.2.2.2.2.2.2.2.2.2.2.2.2.2.2.2.2.2.2.2.2.2.2.2.2.2.2.2.2.2.2.2.2.2.2.2.2.2.2.1 q70.2.2.2.2.2.2.2.2.2.2.2.2.2.2.2.2.2.2.2.2.2.2.2.2.2.2.2.2.2.2.2.2.2.2.2.2.2.2.2.2.1 q70.2.2.2.2.2.2.2.2.2.2.2.2.2.2.2.2.2.2.2.2.2.2.2.2.2.2.2.2.2.2.2.2.2.2.2.2.2.2.2.2.2.1 q70.2.2.2.2.2.2.2.2.2.2.2.2.2.2.2.2.2.2.2.2.2.2.2.2.2.2.2.2.2.2.2.2.2.2.2.2.2.2.2.2.2.2.1 q70.2.2.2.2.2.2.2.2.2.2.2.2.2.2.2.2.2.2.2.2.2.2.2.2.2.2.2.2.2.2.2.2.2.2.2.2.2.2.2.2.2.2.2.1 q70.2.2.2.2.2.2.2.2.2.2.2.2.2.2.2.2.2.2.2.2.2.2.2.2.2.2.2.2.2.2.2.2.2.2.2.2.2.2.2.2.2.2.2.2.1 q70.2.2.2.2.2.2.2.2.2.2.2.2.2.2.2.2.2.2.2.2.2.2.2.2.2.2.2.2.2.2.2.2.2.2.2.2.2.2.2.2.2.2.2.2.2.1 q70.2.2.2.2.2.2.2.2.2.2.2.2.2.2.2.2.2.2.2.2.2.2.2.2.2.2.2.2.2.2.2.2.2.2.2.2.2.2.2.2.2.2.2.2.2.2.1 q70.2.2.2.2.2.2.2.2.2.2.2.2.2.2.2.2.2.2.2.2.2.2.2.2.2.2.2.2.2.2.2.2.2.2.2.2.2.2.2.2.2.2.2.2.2.2.2.1 q70.2.2.2.2.2.2.2.2.2.2.2.2.2.2.2.2.2.2.2.2.2.2.2.2.2.2.2.2.2.2.2.2.2.2.2.2.2.2.2.2.2.2.2.2.2.2.2.2.1 q70.2.2.2.2.2.2.2.2.2.2.2.2.2.2.2.2.2.2.2.2.2.2.2.2.2.2.2.2.2.2.2.2.2.2.2.2.2.2.2.2.2.2.2.2.2.2.2.2.2.1 q70.2.2.2.2.2.2.2.2.2.2.2.2.2.2.2.2.2.2.2.2.2.2.2.2.2.2.2.2.2.2.2.2.2.2.2.2.2.2.2.2.2.2.2.2.2.2.2.2.2.2.1 q70.2.2.2.2.2.2.2.2.2.2.2.2.2.2.2.2.2.2.2.2.2.2.2.2.2.2.2.2.2.2.2.2.2.2.2.2.2.2.2.2.2.2.2.2.2.2.2.2.2.2.2.1 q70.2.2.2.2.2.2.2.2.2.2.2.2.2.2.2.2.2.2.2.2.2.2.2.2.2.2.2.2.2.2.2.2.2.2.2.2.2.2.2.2.2.2.2.2.2.2.2.2.2.2.2.2.1 q70.2.2.2.2.2.2.2.2.2.2.2.2.2.2.2.2.2.2.2.2.2.2.2.2.2.2.2.2.2.2.2.2.2.2.2.2.2.2.2.2.2.2.2.2.2.2.2.2.2.2.2.2.2.1 q70.2.2.2.2.2.2.2.2.2.2.2.2.2.2.2.2.2.2.2.2.2.2.2.2.2.2.2.2.2.2.2.2.2.2.2.2.2.2.2.2.2.2.2.2.2.2.2.2.2.2.2.2.2.2.1 q70.2.2.2.2.2.2.2.2.2.2.2.2.2.2.2.2.2.2.2.2.2.2.2.2.2.2.2.2.2.2.2.2.2.2.2.2.2.2.2.2.2.2.2.2.2.2.2.2.2.2.2.2.2.2.2.1 q70.2.2.2.2.2.2.2.2.2.2.2.2.2.2.2.2.2.2.2.2.2.2.2.2.2.2.2.2.2.2.2.2.2.2.2.2.2.2.2.2.2.2.2.2.2.2.2.2.2.2.2.2.2.2.2.2.1 q70.2.2.2.2.2.2.2.2.2.2.2.2.2.2.2.2.2.2.2.2.2.2.2.2.2.2.2.2.2.2.2.2.2.2.2.2.2.2.2.2.2.2.2.2.2.2.2.2.2.2.2.2.2.2.2.2.2.1 q70.2.2.2.2.2.2.2.2.2.2.2.2.2.2.2.2.2.2.2.2.2.2.2.2.2.2.2.2.2.2.2.2.2.2.2.2.2.2.2.2.2.2.2.2.2.2.2.2.2.2.2.2.2.2.2.2.2.2.1 q70.2.2.2.2.2.2.2.2.2.2.2.2.2.2.2.2.2.2.2.2.2.2.2.2.2.2.2.2.2.2.2.2.2.2.2.2.2.2.2.2.2.2.2.2.2.2.2.2.2.2.2.2.2.2.2.2.2.2.2.1 q70.2.2.2.2.2.2.2.2.2.2.2.2.2.2.2.2.2.2.2.2.2.2.2.2.2.2.2.2.2.2.2.2.2.2.2.2.2.2.2.2.2.2.2.2.2.2.2.2.2.2.2.2.2.2.2.2.2.2.2.2.1 q70.2.2.2.2.2.2.2.2.2.2.2.2.2.2.2.2.2.2.2.2.2.2.2.2.2.2.2.2.2.2.2.2.2.2.2.2.2.2.2.2.2.2.2.2.2.2.2.2.2.2.2.2.2.2.2.2.2.2.2.2.2.1 q70.2.2.2.2.2.2.2.2.2.2.2.2.2.2.2.2.2.2.2.2.2.2.2.2.2.2.2.2.2.2.2.2.2.2.2.2.2.2.2.2.2.2.2.2.2.2.2.2.2.2.2.2.2.2.2.2.2.2.2.2.2.2.1 q70.2.2.2.2.2.2.2.2.2.2.2.2.2.2.2.2.2.2.2.2.2.2.2.2.2.2.2.2.2.2.2.2.2.2.2.2.2.2.2.2.2.2.2.2.2.2.2.2.2.2.2.2.2.2.2.2.2.2.2.2.2.2.2.1 q70.2.2.2.2.2.2.2.2.2.2.2.2.2.2.2.2.2.2.2.2.2.2.2.2.2.2.2.2.2.2.2.2.2.2.2.2.2.2.2.2.2.2.2.2.2.2.2.2.2.2.2.2.2.2.2.2.2.2.2.2.2.2.2.2.1 q70.2.2.2.2.2.2.2.2.2.2.2.2.2.2.2.2.2.2.2.2.2.2.2.2.2.2.2.2.2.2.2.2.2.2.2.2.2.2.2.2.2.2.2.2.2.2.2.2.2.2.2.2.2.2.2.2.2.2.2.2.2.2.2.2.2.1 q70.2.2.2.2.2.2.2.2.2.2.2.2.2.2.2.2.2.2.2.2.2.2.2.2.2.2.2.2.2.2.2.2.2.2.2.2.2.2.2.2.2.2.2.2.2.2.2.2.2.2.2.2.2.2.2.2.2.2.2.2.2.2.2.2.2.2.1) (
 some (x3,(x4,(x5,(x6,(x7,(x8,(x9,(x10,(x11,(x12,(x13,(x14,(x15,(x16,(x17,(x18,(x19,(x20,(x21,(x22,(x23,(x24,(x25,(x26,(x27,(x28,(x29,(x30,(x31,(x32,(x33,(x34,(x35,(x36,(x37,(x38,(x39,(x40,(x41,(x42,(x43,(x44,(x45,(x46,(x47,(x48,(x49,(x50,(x51,(x52,(x53,(x54,(x55,(x56,(x57,(x58,(x59,(x60,(x61,(x62,(x63,(x64,(x65,(x66,())))))))))))))))))))))))))))))))))))))))))))))))))))))))))))))))))
noncomputable def setup_Pixels (x0 x1:Int) (x2 x3:Int):Option T3:=
 some (x1,(x3,(x0,x2)))
noncomputable def frame_pixels (x0:T3):Option T3:=
 obind (setup_Pixels x0.1 x0.2.1 x0.2.2.1 x0.2.2.2) fun q1=>
 some q1
noncomputable def prepass_Buffer__on (x0:Int × Int) (x1 x2:Int):Option (Bool):=
 bnd (F.ge x1 0) fun v3=>
 bite v3 (
 bnd (F.lt x1 x0.1) fun v4=>
 bite v4 (
 bnd (F.ge x2 0) fun v5=>
 bite v5 (
 bnd (F.lt x2 x0.2) fun v6=>
 some v6) (
 some false)) (
 some false)) (
 some false)
noncomputable def abuffer_tile__at (x0:T3) (x1 x2:Int):Option ((Int × Int) × Bool):=
 bnd (F.ge x1 x0.1) fun v3=>
 bite v3 (
 bnd (F.lt x1 x0.2.2.1) fun v4=>
 bite v4 (
 bnd (F.ge x2 x0.2.1) fun v5=>
 bite v5 (
 bnd (F.lt x2 x0.2.2.2) fun v6=>
 some ((x1,x2),v6)) (
 some ((x1,x2),false))) (
 some ((x1,x2),false))) (
 some ((x1,x2),false))
noncomputable def resolve_Begin_j1 (fl:Nat) (x0:Bool) (x1 x2:Int) (x3 x4:Int) (x5 x6:Int) (x7 x8:Int) (x9:Bool) (x10 x11:Int) (x12 x13:Int) (x14 x15:Int) (x16 x17:Int) (x18:Bool) (x19 x20:Int) (x21 x22:Int) (x23 x24:Int) (x25 x26:Int) (x27:Bool) (x28 x29:Int) (x30 x31:Int) (x32 x33:Int) (x34 x35:Int) (x36 x37:Int) (x38 x39:Int) (x40 x41:Int) (x42 x43:Int) (x44 x45:Int) (x46 x47:Int) (x48 x49:Int) (x50 x51:Int):Option T5:=
 bite x0 (
 some (x0,(x1,(x2,(x3,(x4,(x5,(x6,(x7,(x8,(x9,(x10,(x11,(x12,(x13,(x14,(x15,(x16,(x17,(x18,(x19,(x20,(x21,(x22,(x23,(x24,(x25,(x26,(x27,(x28,(x29,(x30,(x31,(x32,(x33,(x34,(x35,(x5,(x6,(x7,(x8,(x40,(x41,(x42,(x43,(x44,(x45,(x46,(x47,(x48,(x49,(x50,(x51,()))))))))))))))))))))))))))))))))))))))))))))))))))))) (
 some (x0,(x1,(x2,(x3,(x4,(x5,(x6,(x7,(x8,(x9,(x10,(x11,(x12,(x13,(x14,(x15,(x16,(x17,(x18,(x19,(x20,(x21,(x22,(x23,(x24,(x25,(x26,(x27,(x28,(x29,(x30,(x31,(x32,(x33,(x34,(x35,(x36,(x37,(x38,(x39,(x40,(x41,(x42,(x43,(x44,(x45,(x46,(x47,(x48,(x49,(x50,(x51,())))))))))))))))))))))))))))))))))))))))))))))))))))))
noncomputable def resolve_Begin_j2 (fl:Nat) (x0:Bool) (x1 x2:Int) (x3 x4:Int) (x5 x6:Int) (x7 x8:Int) (x9:Bool) (x10 x11:Int) (x12 x13:Int) (x14 x15:Int) (x16 x17:Int) (x18:Bool) (x19 x20:Int) (x21 x22:Int) (x23 x24:Int) (x25 x26:Int) (x27:Bool) (x28 x29:Int) (x30 x31:Int) (x32 x33:Int) (x34 x35:Int) (x36 x37:Int) (x38 x39:Int) (x40 x41:Int) (x42 x43:Int) (x44 x45:Int) (x46 x47:Int) (x48 x49:Int) (x50 x51:Int):Option T5:=
 bite x9 (
 some (x0,(x1,(x2,(x3,(x4,(x5,(x6,(x7,(x8,(x9,(x10,(x11,(x12,(x13,(x14,(x15,(x16,(x17,(x18,(x19,(x20,(x21,(x22,(x23,(x24,(x25,(x26,(x27,(x28,(x29,(x30,(x31,(x32,(x33,(x34,(x35,(x36,(x37,(x38,(x39,(x14,(x15,(x16,(x17,(x44,(x45,(x46,(x47,(x48,(x49,(x50,(x51,()))))))))))))))))))))))))))))))))))))))))))))))))))))) (
 some (x0,(x1,(x2,(x3,(x4,(x5,(x6,(x7,(x8,(x9,(x10,(x11,(x12,(x13,(x14,(x15,(x16,(x17,(x18,(x19,(x20,(x21,(x22,(x23,(x24,(x25,(x26,(x27,(x28,(x29,(x30,(x31,(x32,(x33,(x34,(x35,(x36,(x37,(x38,(x39,(x40,(x41,(x42,(x43,(x44,(x45,(x46,(x47,(x48,(x49,(x50,(x51,())))))))))))))))))))))))))))))))))))))))))))))))))))))
noncomputable def resolve_Begin_j3 (fl:Nat) (x0:Bool) (x1 x2:Int) (x3 x4:Int) (x5 x6:Int) (x7 x8:Int) (x9:Bool) (x10 x11:Int) (x12 x13:Int) (x14 x15:Int) (x16 x17:Int) (x18:Bool) (x19 x20:Int) (x21 x22:Int) (x23 x24:Int) (x25 x26:Int) (x27:Bool) (x28 x29:Int) (x30 x31:Int) (x32 x33:Int) (x34 x35:Int) (x36 x37:Int) (x38 x39:Int) (x40 x41:Int) (x42 x43:Int) (x44 x45:Int) (x46 x47:Int) (x48 x49:Int) (x50 x51:Int):Option T5:=
 bite x18 (
 some (x0,(x1,(x2,(x3,(x4,(x5,(x6,(x7,(x8,(x9,(x10,(x11,(x12,(x13,(x14,(x15,(x16,(x17,(x18,(x19,(x20,(x21,(x22,(x23,(x24,(x25,(x26,(x27,(x28,(x29,(x30,(x31,(x32,(x33,(x34,(x35,(x36,(x37,(x38,(x39,(x40,(x41,(x42,(x43,(x23,(x24,(x25,(x26,(x48,(x49,(x50,(x51,()))))))))))))))))))))))))))))))))))))))))))))))))))))) (
 some (x0,(x1,(x2,(x3,(x4,(x5,(x6,(x7,(x8,(x9,(x10,(x11,(x12,(x13,(x14,(x15,(x16,(x17,(x18,(x19,(x20,(x21,(x22,(x23,(x24,(x25,(x26,(x27,(x28,(x29,(x30,(x31,(x32,(x33,(x34,(x35,(x36,(x37,(x38,(x39,(x40,(x41,(x42,(x43,(x44,(x45,(x46,(x47,(x48,(x49,(x50,(x51,())))))))))))))))))))))))))))))))))))))))))))))))))))))
noncomputable def resolve_Begin_j4 (fl:Nat) (x0:Bool) (x1 x2:Int) (x3 x4:Int) (x5 x6:Int) (x7 x8:Int) (x9:Bool) (x10 x11:Int) (x12 x13:Int) (x14 x15:Int) (x16 x17:Int) (x18:Bool) (x19 x20:Int) (x21 x22:Int) (x23 x24:Int) (x25 x26:Int) (x27:Bool) (x28 x29:Int) (x30 x31:Int) (x32 x33:Int) (x34 x35:Int) (x36 x37:Int) (x38 x39:Int) (x40 x41:Int) (x42 x43:Int) (x44 x45:Int) (x46 x47:Int) (x48 x49:Int) (x50 x51:Int):Option T5:=
 bite x27 (
 some (x0,(x1,(x2,(x3,(x4,(x5,(x6,(x7,(x8,(x9,(x10,(x11,(x12,(x13,(x14,(x15,(x16,(x17,(x18,(x19,(x20,(x21,(x22,(x23,(x24,(x25,(x26,(x27,(x28,(x29,(x30,(x31,(x32,(x33,(x34,(x35,(x36,(x37,(x38,(x39,(x40,(x41,(x42,(x43,(x44,(x45,(x46,(x47,(x32,(x33,(x34,(x35,()))))))))))))))))))))))))))))))))))))))))))))))))))))) (
 some (x0,(x1,(x2,(x3,(x4,(x5,(x6,(x7,(x8,(x9,(x10,(x11,(x12,(x13,(x14,(x15,(x16,(x17,(x18,(x19,(x20,(x21,(x22,(x23,(x24,(x25,(x26,(x27,(x28,(x29,(x30,(x31,(x32,(x33,(x34,(x35,(x36,(x37,(x38,(x39,(x40,(x41,(x42,(x43,(x44,(x45,(x46,(x47,(x48,(x49,(x50,(x51,())))))))))))))))))))))))))))))))))))))))))))))))))))))
noncomputable def resolve_Begin (fl:Nat) (x0:T3) (x1:(Bool × T3 × Int × Int × Int × Int) × (Bool × T3 × Int × Int × Int × Int) × (Bool × T3 × Int × Int × Int × Int) × Bool × T3 × Int × Int × Int × Int):Option (T3 × T3 × T3 × Int × Int × Int × Int):=
 obind (resolve_Begin_j1 fl x1.1.1 x1.1.2.1.1 x1.1.2.1.2.1 x1.1.2.1.2.2.1 x1.1.2.1.2.2.2 x1.1.2.2.1 x1.1.2.2.2.1 x1.1.2.2.2.2.1 x1.1.2.2.2.2.2 x1.2.1.1 x1.2.1.2.1.1 x1.2.1.2.1.2.1 x1.2.1.2.1.2.2.1 x1.2.1.2.1.2.2.2 x1.2.1.2.2.1 x1.2.1.2.2.2.1 x1.2.1.2.2.2.2.1 x1.2.1.2.2.2.2.2 x1.2.2.1.1 x1.2.2.1.2.1.1 x1.2.2.1.2.1.2.1 x1.2.2.1.2.1.2.2.1 x1.2.2.1.2.1.2.2.2 x1.2.2.1.2.2.1 x1.2.2.1.2.2.2.1 x1.2.2.1.2.2.2.2.1 x1.2.2.1.2.2.2.2.2 x1.2.2.2.1 x1.2.2.2.2.1.1 x1.2.2.2.2.1.2.1 x1.2.2.2.2.1.2.2.1 x1.2.2.2.2.1.2.2.2 x1.2.2.2.2.2.1 x1.2.2.2.2.2.2.1 x1.2.2.2.2.2.2.2.1 x1.2.2.2.2.2.2.2.2 x0.1 x0.2.1 x0.2.2.1 x0.2.2.2 x0.1 x0.2.1 x0.2.2.1 x0.2.2.2 x0.1 x0.2.1 x0.2.2.1 x0.2.2.2 x0.1 x0.2.1 x0.2.2.1 x0.2.2.2) fun q2=>
 obind (resolve_Begin_j2 fl q2.1 q2.2.1 q2.2.2.1 q2.2.2.2.1 q2.2.2.2.2.1 q2.2.2.2.2.2.1 q2.2.2.2.2.2.2.1 q2.2.2.2.2.2.2.2.1 q2.2.2.2.2.2.2.2.2.1 q2.2.2.2.2.2.2.2.2.2.1 q2.2.2.2.2.2.2.2.2.2.2.1 q2.2.2.2.2.2.2.2.2.2.2.2.1 q2.2.2.2.2.2.2.2.2.2.2.2.2.1 q2.2.2.2.2.2.2.2.2.2.2.2.2.2.1 q2.2.2.2.2.2.2.2.2.2.2.2.2.2.2.1 q2.2.2.2.2.2.2.2.2.2.2.2.2.2.2.2.1 q2.2.2.2.2.2.2.2.2.2.2.2.2.2.2.2.2.1 q2.2.2.2.2.2.2.2.2.2.2.2.2.2.2.2.2.2.1 q2.2.2.2.2.2.2.2.2.2.2.2.2.2.2.2.2.2.2.1 q2.2.2.2.2.2.2.2.2.2.2.2.2.2.2.2.2.2.2.2.1 q2.2.2.2.2.2.2.2.2.2.2.2.2.2.2.2.2.2.2.2.2.1 q2.2.2.2.2.2.2.2.2.2.2.2.2.2.2.2.2.2.2.2.2.2.1 q2.2.2.2.2.2.2.2.2.2.2.2.2.2.2.2.2.2.2.2.2.2.2.1 q2.2.2.2.2.2.2.2.2.2.2.2.2.2.2.2.2.2.2.2.2.2.2.2.1 q2.2.2.2.2.2.2.2.2.2.2.2.2.2.2.2.2.2.2.2.2.2.2.2.2.1 q2.2.2.2.2.2.2.2.2.2.2.2.2.2.2.2.2.2.2.2.2.2.2.2.2.2.1 q2.2.2.2.2.2.2.2.2.2.2.2.2.2.2.2.2.2.2.2.2.2.2.2.2.2.2.1 q2.2.2.2.2.2.2.2.2.2.2.2.2.2.2.2.2.2.2.2.2.2.2.2.2.2.2.2.1 q2.2.2.2.2.2.2.2.2.2.2.2.2.2.2.2.2.2.2.2.2.2.2.2.2.2.2.2.2.1 q2.2.2.2.2.2.2.2.2.2.2.2.2.2.2.2.2.2.2.2.2.2.2.2.2.2.2.2.2.2.1 q2.2.2.2.2.2.2.2.2.2.2.2.2.2.2.2.2.2.2.2.2.2.2.2.2.2.2.2.2.2.2.1 q2.2.2.2.2.2.2.2.2.2.2.2.2.2.2.2.2.2.2.2.2.2.2.2.2.2.2.2.2.2.2.2.1 q2.2.2.2.2.2.2.2.2.2.2.2.2.2.2.2.2.2.2.2.2.2.2.2.2.2.2.2.2.2.2.2.2.1 q2.2.2.2.2.2.2.2.2.2.2.2.2.2.2.2.2.2.2.2.2.2.2.2.2.2.2.2.2.2.2.2.2.2.1 q2.2.2.2.2.2.2.2.2.2.2.2.2.2.2.2.2.2.2.2.2.2.2.2.2.2.2.2.2.2.2.2.2.2.2.1 q2.2.2.2.2.2.2.2.2.2.2.2.2.2.2.2.2.2.2.2.2.2.2.2.2.2.2.2.2.2.2.2.2.2.2.2.1 q2.2.2.2.2.2.2.2.2.2.2.2.2.2.2.2.2.2.2.2.2.2.2.2.2.2.2.2.2.2.2.2.2.2.2.2.2.1 q2.2.2.2.2.2.2.2.2.2.2.2.2.2.2.2.2.2.2.2.2.2.2.2.2.2.2.2.2.2.2.2.2.2.2.2.2.2.1 q2.2.2.2.2.2.2.2.2.2.2.2.2.2.2.2.2.2.2.2.2.2.2.2.2.2.2.2.2.2.2.2.2.2.2.2.2.2.2.1 q2.2.2.2.2.2.2.2.2.2.2.2.2.2.2.2.2.2.2.2.2.2.2.2.2.2.2.2.2.2.2.2.2.2.2.2.2.2.2.2.1 q2.2.2.2.2.2.2.2.2.2.2.2.2.2.2.2.2.2.2.2.2.2.2.2.2.2.2.2.2.2.2.2.2.2.2.2.2.2.2.2.2.1 q2.2.2.2.2.2.2.2.2.2.2.2.2.2.2.2.2.2.2.2.2.2.2.2.2.2.2.2.2.2.2.2.2.2.2.2.2.2.2.2.2.2.1 q2.2.2.2.2.2.2.2.2.2.2.2.2.2.2.2.2.2.2.2.2.2.2.2.2.2.2.2.2.2.2.2.2.2.2.2.2.2.2.2.2.2.2.1 q2.2.2.2.2.2.2.2.2.2.2.2.2.2.2.2.2.2.2.2.2.2.2.2.2.2.2.2.2.2.2.2.2.2.2.2.2.2.2.2.2.2.2.2.1 q2.2.2.2.2.2.2.2.2.2.2.2.2.2.2.2.2.2.2.2.2.2.2.2.2.2.2.2.2.2.2.2.2.2.2.2.2.2.2.2.2.2.2.2.2.1 q2.2.2.2.2.2.2.2.2.2.2.2.2.2.2.2.2.2.2.2.2.2.2.2.2.2.2.2.2.2.2.2.2.2.2.2.2.2.2.2.2.2.2.2.2.2.1 q2.2.2.2.2.2.2.2.2.2.2.2.2.2.2.2.2.2.2.2.2.2.2.2.2.2.2.2.2.2.2.2.2.2.2.2.2.2.2.2.2.2.2.2.2.2.2.1 q2.2.2.2.2.2.2.2.2.2.2.2.2.2.2.2.2.2.2.2.2.2.2.2.2.2.2.2.2.2.2.2.2.2.2.2.2.2.2.2.2.2.2.2.2.2.2.2.1 q2.2.2.2.2.2.2.2.2.2.2.2.2.2.2.2.2.2.2.2.2.2.2.2.2.2.2.2.2.2.2.2.2.2.2.2.2.2.2.2.2.2.2.2.2.2.2.2.2.1 q2.2.2.2.2.2.2.2.2.2.2.2.2.2.2.2.2.2.2.2.2.2.2.2.2.2.2.2.2.2.2.2.2.2.2.2.2.2.2.2.2.2.2.2.2.2.2.2.2.2.1 q2.2.2.2.2.2.2.2.2.2.2.2.2.2.2.2.2.2.2.2.2.2.2.2.2.2.2.2.2.2.2.2.2.2.2.2.2.2.2.2.2.2.2.2.2.2.2.2.2.2.2.1 q2.2.2.2.2.2.2.2.2.2.2.2.2.2.2.2.2.2.2.2.2.2.2.2.2.2.2.2.2.2.2.2.2.2.2.2.2.2.2.2.2.2.2.2.2.2.2.2.2.2.2.2.1) fun q3=>
 obind (resolve_Begin_j3 fl q3.1 q3.2.1 q3.2.2.1 q3.2.2.2.1 q3.2.2.2.2.1 q3.2.2.2.2.2.1 q3.2.2.2.2.2.2.1 q3.2.2.2.2.2.2.2.1 q3.2.2.2.2.2.2.2.2.1 q3.2.2.2.2.2.2.2.2.2.1 q3.2.2.2.2.2.2.2.2.2.2.1 q3.2.2.2.2.2.2.2.2.2.2.2.1 q3.2.2.2.2.2.2.2.2.2.2.2.2.1 q3.2.2.2.2.2.2.2.2.2.2.2.2.2.1 q3.2.2.2.2.2.2.2.2.2.2.2.2.2.2.1 q3.2.2.2.2.2.2.2.2.2.2.2.2.2.2.2.1 q3.2.2.2.2.2.2.2.2.2.2.2.2.2.2.2.2.1 q3.2.2.2.2.2.2.2.2.2.2.2.2.2.2.2.2.2.1 q3.2.2.2.2.2.2.2.2.2.2.2.2.2.2.2.2.2.2.1 q3.2.2.2.2.2.2.2.2.2.2.2.2.2.2.2.2.2.2.2.1 q3.2.2.2.2.2.2.2.2.2.2.2.2.2.2.2.2.2.2.2.2.1 q3.2.2.2.2.2.2.2.2.2.2.2.2.2.2.2.2.2.2.2.2.2.1 q3.2.2.2.2.2.2.2.2.2.2.2.2.2.2.2.2.2.2.2.2.2.2.1 q3.2.2.2.2.2.2.2.2.2.2.2.2.2.2.2.2.2.2.2.2.2.2.2.1 q3.2.2.2.2.2.2.2.2.2.2.2.2.2.2.2.2.2.2.2.2.2.2.2.2.1 q3.2.2.2.2.2.2.2.2.2.2.2.2.2.2.2.2.2.2.2.2.2.2.2.2.2.1 q3.2.2.2.2.2.2.2.2.2.2.2.2.2.2.2.2.2.2.2.2.2.2.2.2.2.2.1 q3.2.2.2.2.2.2.2.2.2.2.2.2.2.2.2.2.2.2.2.2.2.2.2.2.2.2.2.1 q3.2.2.2.2.2.2.2.2.2.2.2.2.2.2.2.2.2.2.2.2.2.2.2.2.2.2.2.2.1 q3.2.2.2.2.2.2.2.2.2.2.2.2.2.2.2.2.2.2.2.2.2.2.2.2.2.2.2.2.2.1 q3.2.2.2.2.2.2.2.2.2.2.2.2.2.2.2.2.2.2.2.2.2.2.2.2.2.2.2.2.2.2.1 q3.2.2.2.2.2.2.2.2.2.2.2.2.2.2.2.2.2.2.2.2.2.2.2.2.2.2.2.2.2.2.2.1 q3.2.2.2.2.2.2.2.2.2.2.2.2.2.2.2.2.2.2.2.2.2.2.2.2.2.2.2.2.2.2.2.2.1 q3.2.2.2.2.2.2.2.2.2.2.2.2.2.2.2.2.2.2.2.2.2.2.2.2.2.2.2.2.2.2.2.2.2.1 q3.2.2.2.2.2.2.2.2.2.2.2.2.2.2.2.2.2.2.2.2.2.2.2.2.2.2.2.2.2.2.2.2.2.2.1 q3.2.2.2.2.2.2.2.2.2.2.2.2.2.2.2.2.2.2.2.2.2.2.2.2.2.2.2.2.2.2.2.2.2.2.2.1 q3.2.2.2.2.2.2.2.2.2.2.2.2.2.2.2.2.2.2.2.2.2.2.2.2.2.2.2.2.2.2.2.2.2.2.2.2.1 q3.2.2.2.2.2.2.2.2.2.2.2.2.2.2.2.2.2.2.2.2.2.2.2.2.2.2.2.2.2.2.2.2.2.2.2.2.2.1 q3.2.2.2.2.2.2.2.2.2.2.2.2.2.2.2.2.2.2.2.2.2.2.2.2.2.2.2.2.2.2.2.2.2.2.2.2.2.2.1 q3.2.2.2.2.2.2.2.2.2.2.2.2.2.2.2.2.2.2.2.2.2.2.2.2.2.2.2.2.2.2.2.2.2.2.2.2.2.2.2.1 q3.2.2.2.2.2.2.2.2.2.2.2.2.2.2.2.2.2.2.2.2.2.2.2.2.2.2.2.2.2.2.2.2.2.2.2.2.2.2.2.2.1 q3.2.2.2.2.2.2.2.2.2.2.2.2.2.2.2.2.2.2.2.2.2.2.2.2.2.2.2.2.2.2.2.2.2.2.2.2.2.2.2.2.2.1 q3.2.2.2.2.2.2.2.2.2.2.2.2.2.2.2.2.2.2.2.2.2.2.2.2.2.2.2.2.2.2.2.2.2.2.2.2.2.2.2.2.2.2.1 q3.2.2.2.2.2.2.2.2.2.2.2.2.2.2.2.2.2.2.2.2.2.2.2.2.2.2.2.2.2.2.2.2.2.2.2.2.2.2.2.2.2.2.2.1 q3.2.2.2.2.2.2.2.2.2.2.2.2.2.2.2.2.2.2.2.2.2.2.2.2.2.2.2.2.2.2.2.2.2.2.2.2.2.2.2.2.2.2.2.2.1 q3.2.2.2.2.2.2.2.2.2.2.2.2.2.2.2.2.2.2.2.2.2.2.2.2.2.2.2.2.2.2.2.2.2.2.2.2.2.2.2.2.2.2.2.2.2.1 q3.2.2.2.2.2.2.2.2.2.2.2.2.2.2.2.2.2.2.2.2.2.2.2.2.2.2.2.2.2.2.2.2.2.2.2.2.2.2.2.2.2.2.2.2.2.2.1 q3.2.2.2.2.2.2.2.2.2.2.2.2.2.2.2.2.2.2.2.2.2.2.2.2.2.2.2.2.2.2.2.2.2.2.2.2.2.2.2.2.2.2.2.2.2.2.2.1 q3.2.2.2.2.2.2.2.2.2.2.2.2.2.2.2.2.2.2.2.2.2.2.2.2.2.2.2.2.2.2.2.2.2.2.2.2.2.2.2.2.2.2.2.2.2.2.2.2.1 q3.2.2.2.2.2.2.2.2.2.2.2.2.2.2.2.2.2.2.2.2.2.2.2.2.2.2.2.2.2.2.2.2.2.2.2.2.2.2.2.2.2.2.2.2.2.2.2.2.2.1 q3.2.2.2.2.2.2.2.2.2.2.2.2.2.2.2.2.2.2.2.2.2.2.2.2.2.2.2.2.2.2.2.2.2.2.2.2.2.2.2.2.2.2.2.2.2.2.2.2.2.2.1 q3.2.2.2.2.2.2.2.2.2.2.2.2.2.2.2.2.2.2.2.2.2.2.2.2.2.2.2.2.2.2.2.2.2.2.2.2.2.2.2.2.2.2.2.2.2.2.2.2.2.2.2.1) fun q4=>
 obind (resolve_Begin_j4 fl q4.1 q4.2.1 q4.2.2.1 q4.2.2.2.1 q4.2.2.2.2.1 q4.2.2.2.2.2.1 q4.2.2.2.2.2.2.1 q4.2.2.2.2.2.2.2.1 q4.2.2.2.2.2.2.2.2.1 q4.2.2.2.2.2.2.2.2.2.1 q4.2.2.2.2.2.2.2.2.2.2.1 q4.2.2.2.2.2.2.2.2.2.2.2.1 q4.2.2.2.2.2.2.2.2.2.2.2.2.1 q4.2.2.2.2.2.2.2.2.2.2.2.2.2.1 q4.2.2.2.2.2.2.2.2.2.2.2.2.2.2.1 q4.2.2.2.2.2.2.2.2.2.2.2.2.2.2.2.1 q4.2.2.2.2.2.2.2.2.2.2.2.2.2.2.2.2.1 q4.2.2.2.2.2.2.2.2.2.2.2.2.2.2.2.2.2.1 q4.2.2.2.2.2.2.2.2.2.2.2.2.2.2.2.2.2.2.1 q4.2.2.2.2.2.2.2.2.2.2.2.2.2.2.2.2.2.2.2.1 q4.2.2.2.2.2.2.2.2.2.2.2.2.2.2.2.2.2.2.2.2.1 q4.2.2.2.2.2.2.2.2.2.2.2.2.2.2.2.2.2.2.2.2.2.1 q4.2.2.2.2.2.2.2.2.2.2.2.2.2.2.2.2.2.2.2.2.2.2.1 q4.2.2.2.2.2.2.2.2.2.2.2.2.2.2.2.2.2.2.2.2.2.2.2.1 q4.2.2.2.2.2.2.2.2.2.2.2.2.2.2.2.2.2.2.2.2.2.2.2.2.1 q4.2.2.2.2.2.2.2.2.2.2.2.2.2.2.2.2.2.2.2.2.2.2.2.2.2.1 q4.2.2.2.2.2.2.2.2.2.2.2.2.2.2.2.2.2.2.2.2.2.2.2.2.2.2.1 q4.2.2.2.2.2.2.2.2.2.2.2.2.2.2.2.2.2.2.2.2.2.2.2.2.2.2.2.1 q4.2.2.2.2.2.2.2.2.2.2.2.2.2.2.2.2.2.2.2.2.2.2.2.2.2.2.2.2.1 q4.2.2.2.2.2.2.2.2.2.2.2.2.2.2.2.2.2.2.2.2.2.2.2.2.2.2.2.2.2.1 q4.2.2.2.2.2.2.2.2.2.2.2.2.2.2.2.2.2.2.2.2.2.2.2.2.2.2.2.2.2.2.1 q4.2.2.2.2.2.2.2.2.2.2.2.2.2.2.2.2.2.2.2.2.2.2.2.2.2.2.2.2.2.2.2.1 q4.2.2.2.2.2.2.2.2.2.2.2.2.2.2.2.2.2.2.2.2.2.2.2.2.2.2.2.2.2.2.2.2.1 q4.2.2.2.2.2.2.2.2.2.2.2.2.2.2.2.2.2.2.2.2.2.2.2.2.2.2.2.2.2.2.2.2.2.1 q4.2.2.2.2.2.2.2.2.2.2.2.2.2.2.2.2.2.2.2.2.2.2.2.2.2.2.2.2.2.2.2.2.2.2.1 q4.2.2.2.2.2.2.2.2.2.2.2.2.2.2.2.2.2.2.2.2.2.2.2.2.2.2.2.2.2.2.2.2.2.2.2.1 q4.2.2.2.2.2.2.2.2.2.2.2.2.2.2.2.2.2.2.2.2.2.2.2.2.2.2.2.2.2.2.2.2.2.2.2.2.1 q4.2.2.2.2.2.2.2.2.2.2.2.2.2.2.2.2.2.2.2.2.2.2.2.2.2.2.2.2.2.2.2.2.2.2.2.2.2.1 q4.2.2.2.2.2.2.2.2.2.2.2.2.2.2.2.2.2.2.2.2.2.2.2.2.2.2.2.2.2.2.2.2.2.2.2.2.2.2.1 q4.2.2.2.2.2.2.2.2.2.2.2.2.2.2.2.2.2.2.2.2.2.2.2.2.2.2.2.2.2.2.2.2.2.2.2.2.2.2.2.1 q4.2.2.2.2.2.2.2.2.2.2.2.2.2.2.2.2.2.2.2.2.2.2.2.2.2.2.2.2.2.2.2.2.2.2.2.2.2.2.2.2.1 q4.2.2.2.2.2.2.2.2.2.2.2.2.2.2.2.2.2.2.2.2.2.2.2.2.2.2.2.2.2.2.2.2.2.2.2.2.2.2.2.2.2.1 q4.2.2.2.2.2.2.2.2.2.2.2.2.2.2.2.2.2.2.2.2.2.2.2.2.2.2.2.2.2.2.2.2.2.2.2.2.2.2.2.2.2.2.1 q4.2.2.2.2.2.2.2.2.2.2.2.2.2.2.2.2.2.2.2.2.2.2.2.2.2.2.2.2.2.2.2.2.2.2.2.2.2.2.2.2.2.2.2.1 q4.2.2.2.2.2.2.2.2.2.2.2.2.2.2.2.2.2.2.2.2.2.2.2.2.2.2.2.2.2.2.2.2.2.2.2.2.2.2.2.2.2.2.2.2.1 q4.2.2.2.2.2.2.2.2.2.2.2.2.2.2.2.2.2.2.2.2.2.2.2.2.2.2.2.2.2.2.2.2.2.2.2.2.2.2.2.2.2.2.2.2.2.1 q4.2.2.2.2.2.2.2.2.2.2.2.2.2.2.2.2.2.2.2.2.2.2.2.2.2.2.2.2.2.2.2.2.2.2.2.2.2.2.2.2.2.2.2.2.2.2.1 q4.2.2.2.2.2.2.2.2.2.2.2.2.2.2.2.2.2.2.2.2.2.2.2.2.2.2.2.2.2.2.2.2.2.2.2.2.2.2.2.2.2.2.2.2.2.2.2.1 q4.2.2.2.2.2.2.2.2.2.2.2.2.2.2.2.2.2.2.2.2.2.2.2.2.2.2.2.2.2.2.2.2.2.2.2.2.2.2.2.2.2.2.2.2.2.2.2.2.1 q4.2.2.2.2.2.2.2.2.2.2.2.2.2.2.2.2.2.2.2.2.2.2.2.2.2.2.2.2.2.2.2.2.2.2.2.2.2.2.2.2.2.2.2.2.2.2.2.2.2.1 q4.2.2.2.2.2.2.2.2.2.2.2.2.2.2.2.2.2.2.2.2.2.2.2.2.2.2.2.2.2.2.2.2.2.2.2.2.2.2.2.2.2.2.2.2.2.2.2.2.2.2.1 q4.2.2.2.2.2.2.2.2.2.2.2.2.2.2.2.2.2.2.2.2.2.2.2.2.2.2.2.2.2.2.2.2.2.2.2.2.2.2.2.2.2.2.2.2.2.2.2.2.2.2.2.1) fun q5=>
 some ((q5.2.2.2.2.2.2.2.2.2.2.2.2.2.2.2.2.2.2.2.2.2.2.2.2.2.2.2.2.2.2.2.2.2.2.2.2.1,(q5.2.2.2.2.2.2.2.2.2.2.2.2.2.2.2.2.2.2.2.2.2.2.2.2.2.2.2.2.2.2.2.2.2.2.2.2.2.1,(q5.2.2.2.2.2.2.2.2.2.2.2.2.2.2.2.2.2.2.2.2.2.2.2.2.2.2.2.2.2.2.2.2.2.2.2.2.2.2.1,q5.2.2.2.2.2.2.2.2.2.2.2.2.2.2.2.2.2.2.2.2.2.2.2.2.2.2.2.2.2.2.2.2.2.2.2.2.2.2.2.1))),((q5.2.2.2.2.2.2.2.2.2.2.2.2.2.2.2.2.2.2.2.2.2.2.2.2.2.2.2.2.2.2.2.2.2.2.2.2.2.2.2.2.1,(q5.2.2.2.2.2.2.2.2.2.2.2.2.2.2.2.2.2.2.2.2.2.2.2.2.2.2.2.2.2.2.2.2.2.2.2.2.2.2.2.2.2.1,(q5.2.2.2.2.2.2.2.2.2.2.2.2.2.2.2.2.2.2.2.2.2.2.2.2.2.2.2.2.2.2.2.2.2.2.2.2.2.2.2.2.2.2.1,q5.2.2.2.2.2.2.2.2.2.2.2.2.2.2.2.2.2.2.2.2.2.2.2.2.2.2.2.2.2.2.2.2.2.2.2.2.2.2.2.2.2.2.2.1))),((q5.2.2.2.2.2.2.2.2.2.2.2.2.2.2.2.2.2.2.2.2.2.2.2.2.2.2.2.2.2.2.2.2.2.2.2.2.2.2.2.2.2.2.2.2.1,(q5.2.2.2.2.2.2.2.2.2.2.2.2.2.2.2.2.2.2.2.2.2.2.2.2.2.2.2.2.2.2.2.2.2.2.2.2.2.2.2.2.2.2.2.2.2.1,(q5.2.2.2.2.2.2.2.2.2.2.2.2.2.2.2.2.2.2.2.2.2.2.2.2.2.2.2.2.2.2.2.2.2.2.2.2.2.2.2.2.2.2.2.2.2.2.1,q5.2.2.2.2.2.2.2.2.2.2.2.2.2.2.2.2.2.2.2.2.2.2.2.2.2.2.2.2.2.2.2.2.2.2.2.2.2.2.2.2.2.2.2.2.2.2.2.1))),(q5.2.2.2.2.2.2.2.2.2.2.2.2.2.2.2.2.2.2.2.2.2.2.2.2.2.2.2.2.2.2.2.2.2.2.2.2.2.2.2.2.2.2.2.2.2.2.2.2.1,(q5.2.2.2.2.2.2.2.2.2.2.2.2.2.2.2.2.2.2.2.2.2.2.2.2.2.2.2.2.2.2.2.2.2.2.2.2.2.2.2.2.2.2.2.2.2.2.2.2.2.1,(q5.2.2.2.2.2.2.2.2.2.2.2.2.2.2.2.2.2.2.2.2.2.2.2.2.2.2.2.2.2.2.2.2.2.2.2.2.2.2.2.2.2.2.2.2.2.2.2.2.2.2.1,q5.2.2.2.2.2.2.2.2.2.2.2.2.2.2.2.2.2.2.2.2.2.2.2.2.2.2.2.2.2.2.2.2.2.2.2.2.2.2.2.2.2.2.2.2.2.2.2.2.2.2.2.1))))))
noncomputable def resolve_Add (x0:T3 × T3 × T3 × Int × Int × Int × Int) (x1:Int × Int × Int × T3 × Int × Int × Int × Int):Option (T3 × T3 × T3 × Int × Int × Int × Int):=
 none
noncomputable def colour_Mean_2 (x0:T3):Option (Int):=
 some x0.1
noncomputable def colour_Mean_1 (x0:Unit) (x1:Int × Int × Int × Int × Int × Int × Int × Int × Int × Int × Int × Int × Int × Int × Int × Int):Option (Int):=
 obind (colour_Mean_2 (x1.1,(x1.2.1,(x1.2.2.1,x1.2.2.2.1)))) fun q2=>
 bnd (F.conv .i64 q2) fun v3=>
 bnd (F.add .i64 2 v3) fun v4=>
 obind (colour_Mean_2 (x1.2.2.2.2.1,(x1.2.2.2.2.2.1,(x1.2.2.2.2.2.2.1,x1.2.2.2.2.2.2.2.1)))) fun q5=>
 bnd (F.conv .i64 q5) fun v6=>
 bnd (F.add .i64 v4 v6) fun v7=>
 obind (colour_Mean_2 (x1.2.2.2.2.2.2.2.2.1,(x1.2.2.2.2.2.2.2.2.2.1,(x1.2.2.2.2.2.2.2.2.2.2.1,x1.2.2.2.2.2.2.2.2.2.2.2.1)))) fun q8=>
 bnd (F.conv .i64 q8) fun v9=>
 bnd (F.add .i64 v7 v9) fun v10=>
 obind (colour_Mean_2 x1.2.2.2.2.2.2.2.2.2.2.2.2) fun q11=>
 bnd (F.conv .i64 q11) fun v12=>
 bnd (F.add .i64 v10 v12) fun v13=>
 bnd (F.quo .i64 v13 4) fun v14=>
 bnd (F.conv .u8 v14) fun v15=>
 some v15
noncomputable def colour_Mean_3 (x0:T3):Option (Int):=
 some x0.2.1
noncomputable def colour_Mean_1__2 (x0:Unit) (x1:Int × Int × Int × Int × Int × Int × Int × Int × Int × Int × Int × Int × Int × Int × Int × Int):Option (Int):=
 obind (colour_Mean_3 (x1.1,(x1.2.1,(x1.2.2.1,x1.2.2.2.1)))) fun q2=>
 bnd (F.conv .i64 q2) fun v3=>
 bnd (F.add .i64 2 v3) fun v4=>
 obind (colour_Mean_3 (x1.2.2.2.2.1,(x1.2.2.2.2.2.1,(x1.2.2.2.2.2.2.1,x1.2.2.2.2.2.2.2.1)))) fun q5=>
 bnd (F.conv .i64 q5) fun v6=>
 bnd (F.add .i64 v4 v6) fun v7=>
 obind (colour_Mean_3 (x1.2.2.2.2.2.2.2.2.1,(x1.2.2.2.2.2.2.2.2.2.1,(x1.2.2.2.2.2.2.2.2.2.2.1,x1.2.2.2.2.2.2.2.2.2.2.2.1)))) fun q8=>
 bnd (F.conv .i64 q8) fun v9=>
 bnd (F.add .i64 v7 v9) fun v10=>
 obind (colour_Mean_3 x1.2.2.2.2.2.2.2.2.2.2.2.2) fun q11=>
 bnd (F.conv .i64 q11) fun v12=>
 bnd (F.add .i64 v10 v12) fun v13=>
 bnd (F.quo .i64 v13 4) fun v14=>
 bnd (F.conv .u8 v14) fun v15=>
 some v15
noncomputable def colour_Mean_4 (x0:T3):Option (Int):=
 some x0.2.2.1
noncomputable def colour_Mean_1__3 (x0:Unit) (x1:Int × Int × Int × Int × Int × Int × Int × Int × Int × Int × Int × Int × Int × Int × Int × Int):Option (Int):=
 obind (colour_Mean_4 (x1.1,(x1.2.1,(x1.2.2.1,x1.2.2.2.1)))) fun q2=>
 bnd (F.conv .i64 q2) fun v3=>
 bnd (F.add .i64 2 v3) fun v4=>
 obind (colour_Mean_4 (x1.2.2.2.2.1,(x1.2.2.2.2.2.1,(x1.2.2.2.2.2.2.1,x1.2.2.2.2.2.2.2.1)))) fun q5=>
 bnd (F.conv .i64 q5) fun v6=>
 bnd (F.add .i64 v4 v6) fun v7=>
 obind (colour_Mean_4 (x1.2.2.2.2.2.2.2.2.1,(x1.2.2.2.2.2.2.2.2.2.1,(x1.2.2.2.2.2.2.2.2.2.2.1,x1.2.2.2.2.2.2.2.2.2.2.2.1)))) fun q8=>
 bnd (F.conv .i64 q8) fun v9=>
 bnd (F.add .i64 v7 v9) fun v10=>
 obind (colour_Mean_4 x1.2.2.2.2.2.2.2.2.2.2.2.2) fun q11=>
 bnd (F.conv .i64 q11) fun v12=>
 bnd (F.add .i64 v10 v12) fun v13=>
 bnd (F.quo .i64 v13 4) fun v14=>
 bnd (F.conv .u8 v14) fun v15=>
 some v15
noncomputable def colour_Mean_5 (x0:T3):Option (Int):=
 some x0.2.2.2
noncomputable def colour_Mean_1__4 (x0:Unit) (x1:Int × Int × Int × Int × Int × Int × Int × Int × Int × Int × Int × Int × Int × Int × Int × Int):Option (Int):=
 obind (colour_Mean_5 (x1.1,(x1.2.1,(x1.2.2.1,x1.2.2.2.1)))) fun q2=>
 bnd (F.conv .i64 q2) fun v3=>
 bnd (F.add .i64 2 v3) fun v4=>
 obind (colour_Mean_5 (x1.2.2.2.2.1,(x1.2.2.2.2.2.1,(x1.2.2.2.2.2.2.1,x1.2.2.2.2.2.2.2.1)))) fun q5=>
 bnd (F.conv .i64 q5) fun v6=>
 bnd (F.add .i64 v4 v6) fun v7=>
 obind (colour_Mean_5 (x1.2.2.2.2.2.2.2.2.1,(x1.2.2.2.2.2.2.2.2.2.1,(x1.2.2.2.2.2.2.2.2.2.2.1,x1.2.2.2.2.2.2.2.2.2.2.2.1)))) fun q8=>
 bnd (F.conv .i64 q8) fun v9=>
 bnd (F.add .i64 v7 v9) fun v10=>
 obind (colour_Mean_5 x1.2.2.2.2.2.2.2.2.2.2.2.2) fun q11=>
 bnd (F.conv .i64 q11) fun v12=>
 bnd (F.add .i64 v10 v12) fun v13=>
 bnd (F.quo .i64 v13 4) fun v14=>
 bnd (F.conv .u8 v14) fun v15=>
 some v15
noncomputable def colour_Mean (x0:T3 × T3 × T3 × Int × Int × Int × Int):Option T3:=
 obind (colour_Mean_1 () (x0.1.1,(x0.1.2.1,(x0.1.2.2.1,(x0.1.2.2.2,(x0.2.1.1,(x0.2.1.2.1,(x0.2.1.2.2.1,(x0.2.1.2.2.2,(x0.2.2.1.1,(x0.2.2.1.2.1,(x0.2.2.1.2.2.1,(x0.2.2.1.2.2.2,x0.2.2.2))))))))))))) fun q1=>
 obind (colour_Mean_1__2 () (x0.1.1,(x0.1.2.1,(x0.1.2.2.1,(x0.1.2.2.2,(x0.2.1.1,(x0.2.1.2.1,(x0.2.1.2.2.1,(x0.2.1.2.2.2,(x0.2.2.1.1,(x0.2.2.1.2.1,(x0.2.2.1.2.2.1,(x0.2.2.1.2.2.2,x0.2.2.2))))))))))))) fun q2=>
 obind (colour_Mean_1__3 () (x0.1.1,(x0.1.2.1,(x0.1.2.2.1,(x0.1.2.2.2,(x0.2.1.1,(x0.2.1.2.1,(x0.2.1.2.2.1,(x0.2.1.2.2.2,(x0.2.2.1.1,(x0.2.2.1.2.1,(x0.2.2.1.2.2.1,(x0.2.2.1.2.2.2,x0.2.2.2))))))))))))) fun q3=>
 obind (colour_Mean_1__4 () (x0.1.1,(x0.1.2.1,(x0.1.2.2.1,(x0.1.2.2.2,(x0.2.1.1,(x0.2.1.2.1,(x0.2.1.2.2.1,(x0.2.1.2.2.2,(x0.2.2.1.1,(x0.2.2.1.2.1,(x0.2.2.1.2.2.1,(x0.2.2.1.2.2.2,x0.2.2.2))))))))))))) fun q4=>
 some (q1,(q2,(q3,q4)))
noncomputable def resolve_Pixel (fl:Nat) (x0:T3) (x1:(Bool × T3 × Int × Int × Int × Int) × (Bool × T3 × Int × Int × Int × Int) × (Bool × T3 × Int × Int × Int × Int) × Bool × T3 × Int × Int × Int × Int) (x2:List (Int × Int × Int × T3 × Int × Int × Int × Int)):Option T3:=
 obind (resolve_Begin fl x0 x1) fun q3=>
 bnd (F.len x2) fun v4=>
 bnd (F.lt 0 v4) fun v5=>
 bite v5 (
 obind (F.get x2 0) fun q6=>
 none) (
 obind (colour_Mean q3) fun q7=>
 some q7)
noncomputable def frame_Render_i82_l1 (fl:Nat):Nat -> Int -> Int -> Int -> Int -> Int -> T3 -> Int -> Int -> Int -> Int -> Int -> Int -> (List T3) -> Int -> Int -> Int -> Int -> Int -> Int -> Int -> Int -> Int -> Int -> Int -> Int -> Int -> Int -> Int -> Int -> Int -> Int -> Int -> Int -> Int -> Int -> Int -> Int -> Int -> Int -> T2 -> (List T1) -> Int -> Int -> Int -> Int -> Int -> Int -> Int -> Int -> T2 -> (List T1) -> Int -> Int -> Int -> Int -> (List T3) -> Option (Int × Int × Int × Int × T3 × Int × Int × Int × Int × Int × Int × (List T3) × Int × Int × Int × Int × Int × Int × Int × Int × Int × Int × Int × Int × Int × Int × Int × Int × Int × Int × Int × Int × Int × Int × Int × Int × Int × Int × T2 × (List T1) × Int × Int × Int × Int × Int × Int × Int × Int × T2 × (List T1) × Int × Int × Int × Int × (List T3) × Unit)
 | 0,_,_,_,_,_,_,_,_,_,_,_,_,_,_,_,_,_,_,_,_,_,_,_,_,_,_,_,_,_,_,_,_,_,_,_,_,_,_,_,_,_,_,_,_,_,_,_,_,_,_,_,_,_,_,_,_=>none
 | n + 1,x0,x1,x2,x3,x4,x5,x6,x7,x8,x9,x10,x11,x12,x13,x14,x15,x16,x17,x18,x19,x20,x21,x22,x23,x24,x25,x26,x27,x28,x29,x30,x31,x32,x33,x34,x35,x36,x37,x38,x39,x40,x41,x42,x43,x44,x45,x46,x47,x48,x49,x50,x51,x52,x53,x54,x55=>
 bnd (F.lt x4 x2) fun v56=>
 bite v56 (
 obind (prepass_Buffer__on (x41,x42) x4 x3) fun q57=>
 bnd (F.mul .i64 x3 x43) fun v58=>
 bnd (F.add .i64 v58 x4) fun v59=>
 obind (abuffer_tile__at (x20,(x21,(x22,x23))) x4 x3) fun q60=>
 bnd (F.not q60.2) fun v61=>
 bite v61 (
 bgd (F.both (F.eq x3 x3) (F.both (F.eq x43 x43) (F.both (F.eq v58 (F.mul .i64 x3 x43)) (F.both (F.eq x4 x4) (F.both (F.eq v59 (F.add .i64 v58 x4)) (F.both (F.both (F.eq x45 x45) (F.both (F.eq x46 x46) (F.both (F.eq x47 x47) (F.eq x48 x48)))) true)))))) (
 obind (resolve_Pixel fl (x45,(x46,(x47,x48))) ((false,((0,(0,(0,0))),(0,(0,(0,0))))),((false,((0,(0,(0,0))),(0,(0,(0,0))))),((false,((0,(0,(0,0))),(0,(0,(0,0))))),(false,((0,(0,(0,0))),(0,(0,(0,0)))))))) []) fun q62=>
 bgd (F.both (F.eq x3 x3) (F.both (F.eq x43 x43) (F.both (F.eq v58 (F.mul .i64 x3 x43)) (F.both (F.eq x4 x4) (F.eq v59 (F.add .i64 v58 x4)))))) (
 bgd (F.has x55 v59) (
 obind (F.get x55 v59) fun q63=>
 bnd (F.add .i64 x4 1) fun v64=>
 frame_Render_i82_l1 fl n x0 x1 x2 x3 v64 x5 x6 x7 x8 x9 x10 x11 x12 x13 x14 x15 x16 x17 x18 x19 x20 x21 x22 x23 x24 x25 x26 x27 x28 x29 x30 x31 x32 x33 x34 x35 x36 x37 x38 x39 x40 x41 x42 x43 x44 x45 x46 x47 x48 x49 x50 x51 x52 x53 x54 (F.put x55 v59 q62))))) (
 bgd (F.both (F.eq x3 x3) (F.both (F.eq x43 x43) (F.both (F.eq v58 (F.mul .i64 x3 x43)) (F.both (F.eq x4 x4) (F.both (F.eq v59 (F.add .i64 v58 x4)) (F.both (F.both (F.eq x45 x45) (F.both (F.eq x46 x46) (F.both (F.eq x47 x47) (F.eq x48 x48)))) true)))))) (
 obind (resolve_Pixel fl (x45,(x46,(x47,x48))) ((false,((0,(0,(0,0))),(0,(0,(0,0))))),((false,((0,(0,(0,0))),(0,(0,(0,0))))),((false,((0,(0,(0,0))),(0,(0,(0,0))))),(false,((0,(0,(0,0))),(0,(0,(0,0)))))))) []) fun q65=>
 bgd (F.both (F.eq x3 x3) (F.both (F.eq x43 x43) (F.both (F.eq v58 (F.mul .i64 x3 x43)) (F.both (F.eq x4 x4) (F.eq v59 (F.add .i64 v58 x4)))))) (
 bgd (F.has x55 v59) (
 obind (F.get x55 v59) fun q66=>
 bnd (F.add .i64 x4 1) fun v67=>
 frame_Render_i82_l1 fl n x0 x1 x2 x3 v67 x5 x6 x7 x8 x9 x10 x11 x12 x13 x14 x15 x16 x17 x18 x19 x20 x21 x22 x23 x24 x25 x26 x27 x28 x29 x30 x31 x32 x33 x34 x35 x36 x37 x38 x39 x40 x41 x42 x43 x44 x45 x46 x47 x48 x49 x50 x51 x52 x53 x54 (F.put x55 v59 q65)))))) (
 some (x0,(x1,(x2,(x3,(x5,(x6,(x7,(x8,(x9,(x10,(x11,(x12,(x13,(x14,(x15,(x16,(x17,(x18,(x19,(x20,(x21,(x22,(x23,(x24,(x25,(x26,(x27,(x28,(x29,(x30,(x31,(x32,(x33,(x34,(x35,(x36,(x37,(x38,(x39,(x40,(x41,(x42,(x43,(x44,(x45,(x46,(x47,(x48,(x49,(x50,(x51,(x52,(x53,(x54,(x55,()))))))))))))))))))))))))))))))))))))))))))))))))))))))))
noncomputable def frame_Render_i82_l2 (fl:Nat):Nat -> Int -> Int -> Int -> Int -> T3 -> Int -> Int -> Int -> Int -> Int -> Int -> (List T3) -> Int -> Int -> Int -> Int -> Int -> Int -> Int -> Int -> Int -> Int -> Int -> Int -> Int -> Int -> Int -> Int -> Int -> Int -> Int -> Int -> Int -> Int -> Int -> Int -> Int -> Int -> T2 -> (List T1) -> Int -> Int -> Int -> Int -> Int -> Int -> Int -> Int -> T2 -> (List T1) -> Int -> Int -> Int -> Int -> (List T3) -> Option (T3 × Int × Int × Int × Int × Int × Int × (List T3) × Int × Int × Int × Int × Int × Int × Int × Int × Int × Int × Int × Int × Int × Int × Int × Int × Int × Int × Int × Int × Int × Int × Int × Int × Int × Int × T2 × (List T1) × Int × Int × Int × Int × Int × Int × Int × Int × T2 × (List T1) × Int × Int × Int × Int × (List T3) × Unit)
 | 0,_,_,_,_,_,_,_,_,_,_,_,_,_,_,_,_,_,_,_,_,_,_,_,_,_,_,_,_,_,_,_,_,_,_,_,_,_,_,_,_,_,_,_,_,_,_,_,_,_,_,_,_,_,_,_=>none
 | n + 1,x0,x1,x2,x3,x4,x5,x6,x7,x8,x9,x10,x11,x12,x13,x14,x15,x16,x17,x18,x19,x20,x21,x22,x23,x24,x25,x26,x27,x28,x29,x30,x31,x32,x33,x34,x35,x36,x37,x38,x39,x40,x41,x42,x43,x44,x45,x46,x47,x48,x49,x50,x51,x52,x53,x54=>
 bnd (F.lt x3 x0) fun v55=>
 bite v55 (
 obind (frame_Render_i82_l1 fl fl x0 x1 x2 x3 x1 x4 x5 x6 x7 x8 x9 x10 x11 x12 x13 x14 x15 x16 x17 x18 x19 x20 x21 x22 x23 x24 x25 x26 x27 x28 x29 x30 x31 x32 x33 x34 x35 x36 x37 x38 x39 x40 x41 x42 x43 x44 x45 x46 x47 x48 x49 x50 x51 x52 x53 x54) fun q56=>
 bnd (F.add .i64 q56.2.2.2.1 1) fun v57=>
 frame_Render_i82_l2 fl n q56.1 q56.2.1 q56.2.2.1 v57 q56.2.2.2.2.1 q56.2.2.2.2.2.1 q56.2.2.2.2.2.2.1 q56.2.2.2.2.2.2.2.1 q56.2.2.2.2.2.2.2.2.1 q56.2.2.2.2.2.2.2.2.2.1 q56.2.2.2.2.2.2.2.2.2.2.1 q56.2.2.2.2.2.2.2.2.2.2.2.1 q56.2.2.2.2.2.2.2.2.2.2.2.2.1 q56.2.2.2.2.2.2.2.2.2.2.2.2.2.1 q56.2.2.2.2.2.2.2.2.2.2.2.2.2.2.1 q56.2.2.2.2.2.2.2.2.2.2.2.2.2.2.2.1 q56.2.2.2.2.2.2.2.2.2.2.2.2.2.2.2.2.1 q56.2.2.2.2.2.2.2.2.2.2.2.2.2.2.2.2.2.1 q56.2.2.2.2.2.2.2.2.2.2.2.2.2.2.2.2.2.2.1 q56.2.2.2.2.2.2.2.2.2.2.2.2.2.2.2.2.2.2.2.1 q56.2.2.2.2.2.2.2.2.2.2.2.2.2.2.2.2.2.2.2.2.1 q56.2.2.2.2.2.2.2.2.2.2.2.2.2.2.2.2.2.2.2.2.2.1 q56.2.2.2.2.2.2.2.2.2.2.2.2.2.2.2.2.2.2.2.2.2.2.1 q56.2.2.2.2.2.2.2.2.2.2.2.2.2.2.2.2.2.2.2.2.2.2.2.1 q56.2.2.2.2.2.2.2.2.2.2.2.2.2.2.2.2.2.2.2.2.2.2.2.2.1 q56.2.2.2.2.2.2.2.2.2.2.2.2.2.2.2.2.2.2.2.2.2.2.2.2.2.1 q56.2.2.2.2.2.2.2.2.2.2.2.2.2.2.2.2.2.2.2.2.2.2.2.2.2.2.1 q56.2.2.2.2.2.2.2.2.2.2.2.2.2.2.2.2.2.2.2.2.2.2.2.2.2.2.2.1 q56.2.2.2.2.2.2.2.2.2.2.2.2.2.2.2.2.2.2.2.2.2.2.2.2.2.2.2.2.1 q56.2.2.2.2.2.2.2.2.2.2.2.2.2.2.2.2.2.2.2.2.2.2.2.2.2.2.2.2.2.1 q56.2.2.2.2.2.2.2.2.2.2.2.2.2.2.2.2.2.2.2.2.2.2.2.2.2.2.2.2.2.2.1 q56.2.2.2.2.2.2.2.2.2.2.2.2.2.2.2.2.2.2.2.2.2.2.2.2.2.2.2.2.2.2.2.1 q56.2.2.2.2.2.2.2.2.2.2.2.2.2.2.2.2.2.2.2.2.2.2.2.2.2.2.2.2.2.2.2.2.1 q56.2.2.2.2.2.2.2.2.2.2.2.2.2.2.2.2.2.2.2.2.2.2.2.2.2.2.2.2.2.2.2.2.2.1 q56.2.2.2.2.2.2.2.2.2.2.2.2.2.2.2.2.2.2.2.2.2.2.2.2.2.2.2.2.2.2.2.2.2.2.1 q56.2.2.2.2.2.2.2.2.2.2.2.2.2.2.2.2.2.2.2.2.2.2.2.2.2.2.2.2.2.2.2.2.2.2.2.1 q56.2.2.2.2.2.2.2.2.2.2.2.2.2.2.2.2.2.2.2.2.2.2.2.2.2.2.2.2.2.2.2.2.2.2.2.2.1 q56.2.2.2.2.2.2.2.2.2.2.2.2.2.2.2.2.2.2.2.2.2.2.2.2.2.2.2.2.2.2.2.2.2.2.2.2.2.1 q56.2.2.2.2.2.2.2.2.2.2.2.2.2.2.2.2.2.2.2.2.2.2.2.2.2.2.2.2.2.2.2.2.2.2.2.2.2.2.1 q56.2.2.2.2.2.2.2.2.2.2.2.2.2.2.2.2.2.2.2.2.2.2.2.2.2.2.2.2.2.2.2.2.2.2.2.2.2.2.2.1 q56.2.2.2.2.2.2.2.2.2.2.2.2.2.2.2.2.2.2.2.2.2.2.2.2.2.2.2.2.2.2.2.2.2.2.2.2.2.2.2.2.1 q56.2.2.2.2.2.2.2.2.2.2.2.2.2.2.2.2.2.2.2.2.2.2.2.2.2.2.2.2.2.2.2.2.2.2.2.2.2.2.2.2.2.1 q56.2.2.2.2.2.2.2.2.2.2.2.2.2.2.2.2.2.2.2.2.2.2.2.2.2.2.2.2.2.2.2.2.2.2.2.2.2.2.2.2.2.2.1 q56.2.2.2.2.2.2.2.2.2.2.2.2.2.2.2.2.2.2.2.2.2.2.2.2.2.2.2.2.2.2.2.2.2.2.2.2.2.2.2.2.2.2.2.1 q56.2.2.2.2.2.2.2.2.2.2.2.2.2.2.2.2.2.2.2.2.2.2.2.2.2.2.2.2.2.2.2.2.2.2.2.2.2.2.2.2.2.2.2.2.1 q56.2.2.2.2.2.2.2.2.2.2.2.2.2.2.2.2.2.2.2.2.2.2.2.2.2.2.2.2.2.2.2.2.2.2.2.2.2.2.2.2.2.2.2.2.2.1 q56.2.2.2.2.2.2.2.2.2.2.2.2.2.2.2.2.2.2.2.2.2.2.2.2.2.2.2.2.2.2.2.2.2.2.2.2.2.2.2.2.2.2.2.2.2.2.1 q56.2.2.2.2.2.2.2.2.2.2.2.2.2.2.2.2.2.2.2.2.2.2.2.2.2.2.2.2.2.2.2.2.2.2.2.2.2.2.2.2.2.2.2.2.2.2.2.1 q56.2.2.2.2.2.2.2.2.2.2.2.2.2.2.2.2.2.2.2.2.2.2.2.2.2.2.2.2.2.2.2.2.2.2.2.2.2.2.2.2.2.2.2.2.2.2.2.2.1 q56.2.2.2.2.2.2.2.2.2.2.2.2.2.2.2.2.2.2.2.2.2.2.2.2.2.2.2.2.2.2.2.2.2.2.2.2.2.2.2.2.2.2.2.2.2.2.2.2.2.1 q56.2.2.2.2.2.2.2.2.2.2.2.2.2.2.2.2.2.2.2.2.2.2.2.2.2.2.2.2.2.2.2.2.2.2.2.2.2.2.2.2.2.2.2.2.2.2.2.2.2.2.1 q56.2.2.2.2.2.2.2.2.2.2.2.2.2.2.2.2.2.2.2.2.2.2.2.2.2.2.2.2.2.2.2.2.2.2.2.2.2.2.2.2.2.2.2.2.2.2.2.2.2.2.2.1 q56.2.2.2.2.2.2.2.2.2.2.2.2.2.2.2.2.2.2.2.2.2.2.2.2.2.2.2.2.2.2.2.2.2.2.2.2.2.2.2.2.2.2.2.2.2.2.2.2.2.2.2.2.1 q56.2.2.2.2.2.2.2.2.2.2.2.2.2.2.2.2.2.2.2.2.2.2.2.2.2.2.2.2.2.2.2.2.2.2.2.2.2.2.2.2.2.2.2.2.2.2.2.2.2.2.2.2.2.1 q56.2.2.2.2.2.2.2.2.2.2.2.2.2.2.2.2.2.2.2.2.2.2.2.2.2.2.2.2.2.2.2.2.2.2.2.2.2.2.2.2.2.2.2.2.2.2.2.2.2.2.2.2.2.2.1) (
 some (x4,(x5,(x6,(x7,(x8,(x9,(x10,(x11,(x12,(x13,(x14,(x15,(x16,(x17,(x18,(x19,(x20,(x21,(x22,(x23,(x24,(x25,(x26,(x27,(x28,(x29,(x30,(x31,(x32,(x33,(x34,(x35,(x36,(x37,(x38,(x39,(x40,(x41,(x42,(x43,(x44,(x45,(x46,(x47,(x48,(x49,(x50,(x51,(x52,(x53,(x54,()))))))))))))))))))))))))))))))))))))))))))))))))))))
noncomputable def pool_Pool (x0:Int × Int × Int × Int × List (Unit)):Option (Int):=
 some x0.2.2.2.1
noncomputable def pool_Pool__2 (x0:Int × Int × Int × Int × List (Unit)):Option (Int):=
 some x0.2.2.1
noncomputable def frags_Maker__parts__2 (x0:Int × Int × Int × Int × Int × Int × List (Int × Int × Int × Int × Int × Int × Int × Int)) (x1:T3):Option (List (Int × (Int × Int × Int × Int × Int × Int × Int) × (Int × Int × Int × Int × Int × Int × Int) × Int × Int × Int × Int × Int × Int × Int)):=
 none
noncomputable def frame_Render_i79_l5 (fl:Nat):Nat -> Int -> (List T1) -> Int -> Int -> Int -> Int -> Int -> Int -> (List T3) -> Int -> Int -> Int -> Int -> Int -> Int -> Int -> Int -> Int -> T2 -> (List T1) -> Int -> Int -> Int -> Int -> Int -> Int -> Int -> Int -> Int -> Int -> Int -> Int -> Int -> Int -> Int -> Int -> Int -> Int -> Int -> Int -> Int -> Int -> Int -> Int -> Int -> Int -> Int -> T2 -> (List T1) -> Int -> Int -> Int -> Int -> Int -> Int -> Int -> Int -> T2 -> (List T1) -> Int -> Int -> Int -> Int -> (List T3) -> Int -> Int -> Int -> Option ((List T1) × Int × Int × Int × Int × (List T3) × Int × Int × Int × Int × Int × Int × Int × Int × Int × T2 × (List T1) × Int × Int × Int × Int × Int × Int × Int × Int × Int × Int × Int × Int × Int × Int × Int × Int × Int × Int × Int × Int × Int × Int × Int × Int × Int × Int × Int × T2 × (List T1) × Int × Int × Int × Int × Int × Int × Int × Int × T2 × (List T1) × Int × Int × Int × Int × (List T3) × Int × Int × Int × Unit)
 | 0,_,_,_,_,_,_,_,_,_,_,_,_,_,_,_,_,_,_,_,_,_,_,_,_,_,_,_,_,_,_,_,_,_,_,_,_,_,_,_,_,_,_,_,_,_,_,_,_,_,_,_,_,_,_,_,_,_,_,_,_,_,_,_,_,_,_,_=>none
 | n + 1,x0,x1,x2,x3,x4,x5,x6,x7,x8,x9,x10,x11,x12,x13,x14,x15,x16,x17,x18,x19,x20,x21,x22,x23,x24,x25,x26,x27,x28,x29,x30,x31,x32,x33,x34,x35,x36,x37,x38,x39,x40,x41,x42,x43,x44,x45,x46,x47,x48,x49,x50,x51,x52,x53,x54,x55,x56,x57,x58,x59,x60,x61,x62,x63,x64,x65,x66=>
 bnd (F.lt x5 x4) fun v67=>
 bite v67 (
 obind (F.get x48 x0) fun q68=>
 bnd (F.bne q68.2.2.2.1 false) fun v69=>
 bite v69 (
 bnd (F.add .i64 x5 1) fun v70=>
 frame_Render_i79_l5 fl n x0 x1 x2 x3 x4 v70 x6 x7 x8 x9 x10 x11 x12 x13 x14 x15 x16 x17 x18 x19 x20 x21 x22 x23 x24 x25 x26 x27 x28 x29 x30 x31 x32 x33 x34 x35 x36 x37 x38 x39 x40 x41 x42 x43 x44 x45 x46 x47 x48 x49 x50 x51 x52 x53 x54 x55 x56 x57 x58 x59 x60 x61 x62 x63 x64 x65 x66) (
 obind (F.get q68.2.2.2.2 x5) fun q71=>
 none)) (
 some (x1,(x2,(x3,(x6,(x7,(x8,(x9,(x10,(x11,(x12,(x13,(x14,(x15,(x16,(x17,(x18,(x19,(x20,(x21,(x22,(x23,(x24,(x25,(x26,(x27,(x28,(x29,(x30,(x31,(x32,(x33,(x34,(x35,(x36,(x37,(x38,(x39,(x40,(x41,(x42,(x43,(x44,(x45,(x46,(x47,(x48,(x49,(x50,(x51,(x52,(x53,(x54,(x55,(x56,(x57,(x58,(x59,(x60,(x61,(x62,(x63,(x64,(x65,(x66,())))))))))))))))))))))))))))))))))))))))))))))))))))))))))))))))))
noncomputable def frame_Render_i79_l6 (fl:Nat):Nat -> (List T1) -> Int -> Int -> Int -> Int -> (List T3) -> Int -> Int -> Int -> Int -> Int -> Int -> Int -> Int -> Int -> T2 -> (List T1) -> Int -> Int -> Int -> Int -> Int -> Int -> Int -> Int -> Int -> Int -> Int -> Int -> Int -> Int -> Int -> Int -> Int -> Int -> Int -> Int -> Int -> Int -> Int -> Int -> Int -> Int -> Int -> T2 -> (List T1) -> Int -> Int -> Int -> Int -> Int -> Int -> Int -> Int -> T2 -> (List T1) -> Int -> Int -> Int -> Int -> (List T3) -> Int -> Int -> Int -> Option (Int × Int × (List T3) × Int × Int × Int × Int × Int × Int × Int × Int × Int × T2 × (List T1) × Int × Int × Int × Int × Int × Int × Int × Int × Int × Int × Int × Int × Int × Int × Int × Int × Int × Int × Int × Int × Int × Int × Int × Int × Int × Int × Int × T2 × (List T1) × Int × Int × Int × Int × Int × Int × Int × Int × T2 × (List T1) × Int × Int × Int × Int × (List T3) × Int × Int × Int × Unit)
 | 0,_,_,_,_,_,_,_,_,_,_,_,_,_,_,_,_,_,_,_,_,_,_,_,_,_,_,_,_,_,_,_,_,_,_,_,_,_,_,_,_,_,_,_,_,_,_,_,_,_,_,_,_,_,_,_,_,_,_,_,_,_,_,_,_=>none
 | n + 1,x0,x1,x2,x3,x4,x5,x6,x7,x8,x9,x10,x11,x12,x13,x14,x15,x16,x17,x18,x19,x20,x21,x22,x23,x24,x25,x26,x27,x28,x29,x30,x31,x32,x33,x34,x35,x36,x37,x38,x39,x40,x41,x42,x43,x44,x45,x46,x47,x48,x49,x50,x51,x52,x53,x54,x55,x56,x57,x58,x59,x60,x61,x62,x63=>
 bnd (F.lt x2 x1) fun v64=>
 bite v64 (
 obind (F.get x0 x2) fun q65=>
 bnd (F.len q65.2.2.2.2) fun v66=>
 obind (frame_Render_i79_l5 fl fl x2 x0 x1 x2 v66 0 x3 x4 x5 x6 x7 x8 x9 x10 x11 x12 x13 x14 x15 x16 x17 x18 x19 x20 x21 x22 x23 x24 x25 x26 x27 x28 x29 x30 x31 x32 x33 x34 x35 x36 x37 x38 x39 x40 x41 x42 x43 x44 x45 x46 x47 x48 x49 x50 x51 x52 x53 x54 x55 x56 x57 x58 x59 x60 x61 x62 x63) fun q67=>
 bnd (F.add .i64 q67.2.2.1 1) fun v68=>
 frame_Render_i79_l6 fl n q67.1 q67.2.1 v68 q67.2.2.2.1 q67.2.2.2.2.1 q67.2.2.2.2.2.1 q67.2.2.2.2.2.2.1 q67.2.2.2.2.2.2.2.1 q67.2.2.2.2.2.2.2.2.1 q67.2.2.2.2.2.2.2.2.2.1 q67.2.2.2.2.2.2.2.2.2.2.1 q67.2.2.2.2.2.2.2.2.2.2.2.1 q67.2.2.2.2.2.2.2.2.2.2.2.2.1 q67.2.2.2.2.2.2.2.2.2.2.2.2.2.1 q67.2.2.2.2.2.2.2.2.2.2.2.2.2.2.1 q67.2.2.2.2.2.2.2.2.2.2.2.2.2.2.2.1 q67.2.2.2.2.2.2.2.2.2.2.2.2.2.2.2.2.1 q67.2.2.2.2.2.2.2.2.2.2.2.2.2.2.2.2.2.1 q67.2.2.2.2.2.2.2.2.2.2.2.2.2.2.2.2.2.2.1 q67.2.2.2.2.2.2.2.2.2.2.2.2.2.2.2.2.2.2.2.1 q67.2.2.2.2.2.2.2.2.2.2.2.2.2.2.2.2.2.2.2.2.1 q67.2.2.2.2.2.2.2.2.2.2.2.2.2.2.2.2.2.2.2.2.2.1 q67.2.2.2.2.2.2.2.2.2.2.2.2.2.2.2.2.2.2.2.2.2.2.1 q67.2.2.2.2.2.2.2.2.2.2.2.2.2.2.2.2.2.2.2.2.2.2.2.1 q67.2.2.2.2.2.2.2.2.2.2.2.2.2.2.2.2.2.2.2.2.2.2.2.2.1 q67.2.2.2.2.2.2.2.2.2.2.2.2.2.2.2.2.2.2.2.2.2.2.2.2.2.1 q67.2.2.2.2.2.2.2.2.2.2.2.2.2.2.2.2.2.2.2.2.2.2.2.2.2.2.1 q67.2.2.2.2.2.2.2.2.2.2.2.2.2.2.2.2.2.2.2.2.2.2.2.2.2.2.2.1 q67.2.2.2.2.2.2.2.2.2.2.2.2.2.2.2.2.2.2.2.2.2.2.2.2.2.2.2.2.1 q67.2.2.2.2.2.2.2.2.2.2.2.2.2.2.2.2.2.2.2.2.2.2.2.2.2.2.2.2.2.1 q67.2.2.2.2.2.2.2.2.2.2.2.2.2.2.2.2.2.2.2.2.2.2.2.2.2.2.2.2.2.2.1 q67.2.2.2.2.2.2.2.2.2.2.2.2.2.2.2.2.2.2.2.2.2.2.2.2.2.2.2.2.2.2.2.1 q67.2.2.2.2.2.2.2.2.2.2.2.2.2.2.2.2.2.2.2.2.2.2.2.2.2.2.2.2.2.2.2.2.1 q67.2.2.2.2.2.2.2.2.2.2.2.2.2.2.2.2.2.2.2.2.2.2.2.2.2.2.2.2.2.2.2.2.2.1 q67.2.2.2.2.2.2.2.2.2.2.2.2.2.2.2.2.2.2.2.2.2.2.2.2.2.2.2.2.2.2.2.2.2.2.1 q67.2.2.2.2.2.2.2.2.2.2.2.2.2.2.2.2.2.2.2.2.2.2.2.2.2.2.2.2.2.2.2.2.2.2.2.1 q67.2.2.2.2.2.2.2.2.2.2.2.2.2.2.2.2.2.2.2.2.2.2.2.2.2.2.2.2.2.2.2.2.2.2.2.2.1 q67.2.2.2.2.2.2.2.2.2.2.2.2.2.2.2.2.2.2.2.2.2.2.2.2.2.2.2.2.2.2.2.2.2.2.2.2.2.1 q67.2.2.2.2.2.2.2.2.2.2.2.2.2.2.2.2.2.2.2.2.2.2.2.2.2.2.2.2.2.2.2.2.2.2.2.2.2.2.1 q67.2.2.2.2.2.2.2.2.2.2.2.2.2.2.2.2.2.2.2.2.2.2.2.2.2.2.2.2.2.2.2.2.2.2.2.2.2.2.2.1 q67.2.2.2.2.2.2.2.2.2.2.2.2.2.2.2.2.2.2.2.2.2.2.2.2.2.2.2.2.2.2.2.2.2.2.2.2.2.2.2.2.1 q67.2.2.2.2.2.2.2.2.2.2.2.2.2.2.2.2.2.2.2.2.2.2.2.2.2.2.2.2.2.2.2.2.2.2.2.2.2.2.2.2.2.1 q67.2.2.2.2.2.2.2.2.2.2.2.2.2.2.2.2.2.2.2.2.2.2.2.2.2.2.2.2.2.2.2.2.2.2.2.2.2.2.2.2.2.2.1 q67.2.2.2.2.2.2.2.2.2.2.2.2.2.2.2.2.2.2.2.2.2.2.2.2.2.2.2.2.2.2.2.2.2.2.2.2.2.2.2.2.2.2.2.1 q67.2.2.2.2.2.2.2.2.2.2.2.2.2.2.2.2.2.2.2.2.2.2.2.2.2.2.2.2.2.2.2.2.2.2.2.2.2.2.2.2.2.2.2.2.1 q67.2.2.2.2.2.2.2.2.2.2.2.2.2.2.2.2.2.2.2.2.2.2.2.2.2.2.2.2.2.2.2.2.2.2.2.2.2.2.2.2.2.2.2.2.2.1 q67.2.2.2.2.2.2.2.2.2.2.2.2.2.2.2.2.2.2.2.2.2.2.2.2.2.2.2.2.2.2.2.2.2.2.2.2.2.2.2.2.2.2.2.2.2.2.1 q67.2.2.2.2.2.2.2.2.2.2.2.2.2.2.2.2.2.2.2.2.2.2.2.2.2.2.2.2.2.2.2.2.2.2.2.2.2.2.2.2.2.2.2.2.2.2.2.1 q67.2.2.2.2.2.2.2.2.2.2.2.2.2.2.2.2.2.2.2.2.2.2.2.2.2.2.2.2.2.2.2.2.2.2.2.2.2.2.2.2.2.2.2.2.2.2.2.2.1 q67.2.2.2.2.2.2.2.2.2.2.2.2.2.2.2.2.2.2.2.2.2.2.2.2.2.2.2.2.2.2.2.2.2.2.2.2.2.2.2.2.2.2.2.2.2.2.2.2.2.1 q67.2.2.2.2.2.2.2.2.2.2.2.2.2.2.2.2.2.2.2.2.2.2.2.2.2.2.2.2.2.2.2.2.2.2.2.2.2.2.2.2.2.2.2.2.2.2.2.2.2.2.1 q67.2.2.2.2.2.2.2.2.2.2.2.2.2.2.2.2.2.2.2.2.2.2.2.2.2.2.2.2.2.2.2.2.2.2.2.2.2.2.2.2.2.2.2.2.2.2.2.2.2.2.2.1 q67.2.2.2.2.2.2.2.2.2.2.2.2.2.2.2.2.2.2.2.2.2.2.2.2.2.2.2.2.2.2.2.2.2.2.2.2.2.2.2.2.2.2.2.2.2.2.2.2.2.2.2.2.1 q67.2.2.2.2.2.2.2.2.2.2.2.2.2.2.2.2.2.2.2.2.2.2.2.2.2.2.2.2.2.2.2.2.2.2.2.2.2.2.2.2.2.2.2.2.2.2.2.2.2.2.2.2.2.1 q67.2.2.2.2.2.2.2.2.2.2.2.2.2.2.2.2.2.2.2.2.2.2.2.2.2.2.2.2.2.2.2.2.2.2.2.2.2.2.2.2.2.2.2.2.2.2.2.2.2.2.2.2.2.2.1 q67.2.2.2.2.2.2.2.2.2.2.2.2.2.2.2.2.2.2.2.2.2.2.2.2.2.2.2.2.2.2.2.2.2.2.2.2.2.2.2.2.2.2.2.2.2.2.2.2.2.2.2.2.2.2.2.1 q67.2.2.2.2.2.2.2.2.2.2.2.2.2.2.2.2.2.2.2.2.2.2.2.2.2.2.2.2.2.2.2.2.2.2.2.2.2.2.2.2.2.2.2.2.2.2.2.2.2.2.2.2.2.2.2.2.1 q67.2.2.2.2.2.2.2.2.2.2.2.2.2.2.2.2.2.2.2.2.2.2.2.2.2.2.2.2.2.2.2.2.2.2.2.2.2.2.2.2.2.2.2.2.2.2.2.2.2.2.2.2.2.2.2.2.2.1 q67.2.2.2.2.2.2.2.2.2.2.2.2.2.2.2.2.2.2.2.2.2.2.2.2.2.2.2.2.2.2.2.2.2.2.2.2.2.2.2.2.2.2.2.2.2.2.2.2.2.2.2.2.2.2.2.2.2.2.1 q67.2.2.2.2.2.2.2.2.2.2.2.2.2.2.2.2.2.2.2.2.2.2.2.2.2.2.2.2.2.2.2.2.2.2.2.2.2.2.2.2.2.2.2.2.2.2.2.2.2.2.2.2.2.2.2.2.2.2.2.1 q67.2.2.2.2.2.2.2.2.2.2.2.2.2.2.2.2.2.2.2.2.2.2.2.2.2.2.2.2.2.2.2.2.2.2.2.2.2.2.2.2.2.2.2.2.2.2.2.2.2.2.2.2.2.2.2.2.2.2.2.2.1 q67.2.2.2.2.2.2.2.2.2.2.2.2.2.2.2.2.2.2.2.2.2.2.2.2.2.2.2.2.2.2.2.2.2.2.2.2.2.2.2.2.2.2.2.2.2.2.2.2.2.2.2.2.2.2.2.2.2.2.2.2.2.1 q67.2.2.2.2.2.2.2.2.2.2.2.2.2.2.2.2.2.2.2.2.2.2.2.2.2.2.2.2.2.2.2.2.2.2.2.2.2.2.2.2.2.2.2.2.2.2.2.2.2.2.2.2.2.2.2.2.2.2.2.2.2.2.1 q67.2.2.2.2.2.2.2.2.2.2.2.2.2.2.2.2.2.2.2.2.2.2.2.2.2.2.2.2.2.2.2.2.2.2.2.2.2.2.2.2.2.2.2.2.2.2.2.2.2.2.2.2.2.2.2.2.2.2.2.2.2.2.2.1) (
 some (x3,(x4,(x5,(x6,(x7,(x8,(x9,(x10,(x11,(x12,(x13,(x14,(x15,(x16,(x17,(x18,(x19,(x20,(x21,(x22,(x23,(x24,(x25,(x26,(x27,(x28,(x29,(x30,(x31,(x32,(x33,(x34,(x35,(x36,(x37,(x38,(x39,(x40,(x41,(x42,(x43,(x44,(x45,(x46,(x47,(x48,(x49,(x50,(x51,(x52,(x53,(x54,(x55,(x56,(x57,(x58,(x59,(x60,(x61,(x62,(x63,()))))))))))))))))))))))))))))))))))))))))))))))))))))))))))))))
noncomputable def frame_Render_i82_l3 (fl:Nat):Nat -> Int -> Int -> Int -> Int -> Int -> T3 -> Int -> Int -> Int -> Int -> Int -> Int -> (List T3) -> Int -> Int -> Int -> Int -> Int -> Int -> Int -> Int -> Int -> Int -> Int -> Int -> Int -> Int -> Int -> Int -> Int -> Int -> Int -> Int -> Int -> Int -> Int -> Int -> Int -> Int -> T2 -> (List T1) -> Int -> Int -> Int -> Int -> Int -> Int -> Int -> Int -> T2 -> (List T1) -> Int -> Int -> Int -> Int -> (List T3) -> Int -> Int -> Int -> Option (Int × Int × Int × Int × T3 × Int × Int × Int × Int × Int × Int × (List T3) × Int × Int × Int × Int × Int × Int × Int × Int × Int × Int × Int × Int × Int × Int × Int × Int × Int × Int × Int × Int × Int × Int × Int × Int × Int × Int × T2 × (List T1) × Int × Int × Int × Int × Int × Int × Int × Int × T2 × (List T1) × Int × Int × Int × Int × (List T3) × Int × Int × Int × Unit)
 | 0,_,_,_,_,_,_,_,_,_,_,_,_,_,_,_,_,_,_,_,_,_,_,_,_,_,_,_,_,_,_,_,_,_,_,_,_,_,_,_,_,_,_,_,_,_,_,_,_,_,_,_,_,_,_,_,_,_,_,_=>none
 | n + 1,x0,x1,x2,x3,x4,x5,x6,x7,x8,x9,x10,x11,x12,x13,x14,x15,x16,x17,x18,x19,x20,x21,x22,x23,x24,x25,x26,x27,x28,x29,x30,x31,x32,x33,x34,x35,x36,x37,x38,x39,x40,x41,x42,x43,x44,x45,x46,x47,x48,x49,x50,x51,x52,x53,x54,x55,x56,x57,x58=>
 bnd (F.lt x4 x2) fun v59=>
 bite v59 (
 obind (prepass_Buffer__on (x41,x42) x4 x3) fun q60=>
 bnd (F.mul .i64 x3 x43) fun v61=>
 bnd (F.add .i64 v61 x4) fun v62=>
 obind (abuffer_tile__at (x20,(x21,(x22,x23))) x4 x3) fun q63=>
 bnd (F.not q63.2) fun v64=>
 bite v64 (
 bgd (F.both (F.eq x3 x3) (F.both (F.eq x43 x43) (F.both (F.eq v61 (F.mul .i64 x3 x43)) (F.both (F.eq x4 x4) (F.both (F.eq v62 (F.add .i64 v61 x4)) (F.both (F.both (F.eq x45 x45) (F.both (F.eq x46 x46) (F.both (F.eq x47 x47) (F.eq x48 x48)))) true)))))) (
 obind (resolve_Pixel fl (x45,(x46,(x47,x48))) ((false,((0,(0,(0,0))),(0,(0,(0,0))))),((false,((0,(0,(0,0))),(0,(0,(0,0))))),((false,((0,(0,(0,0))),(0,(0,(0,0))))),(false,((0,(0,(0,0))),(0,(0,(0,0)))))))) []) fun q65=>
 bgd (F.both (F.eq x3 x3) (F.both (F.eq x43 x43) (F.both (F.eq v61 (F.mul .i64 x3 x43)) (F.both (F.eq x4 x4) (F.eq v62 (F.add .i64 v61 x4)))))) (
 bgd (F.has x55 v62) (
 obind (F.get x55 v62) fun q66=>
 bnd (F.add .i64 x4 1) fun v67=>
 frame_Render_i82_l3 fl n x0 x1 x2 x3 v67 x5 x6 x7 x8 x9 x10 x11 x12 x13 x14 x15 x16 x17 x18 x19 x20 x21 x22 x23 x24 x25 x26 x27 x28 x29 x30 x31 x32 x33 x34 x35 x36 x37 x38 x39 x40 x41 x42 x43 x44 x45 x46 x47 x48 x49 x50 x51 x52 x53 x54 (F.put x55 v62 q65) x56 x57 x58)))) (
 bgd (F.both (F.eq x3 x3) (F.both (F.eq x43 x43) (F.both (F.eq v61 (F.mul .i64 x3 x43)) (F.both (F.eq x4 x4) (F.both (F.eq v62 (F.add .i64 v61 x4)) (F.both (F.both (F.eq x45 x45) (F.both (F.eq x46 x46) (F.both (F.eq x47 x47) (F.eq x48 x48)))) true)))))) (
 obind (resolve_Pixel fl (x45,(x46,(x47,x48))) ((false,((0,(0,(0,0))),(0,(0,(0,0))))),((false,((0,(0,(0,0))),(0,(0,(0,0))))),((false,((0,(0,(0,0))),(0,(0,(0,0))))),(false,((0,(0,(0,0))),(0,(0,(0,0)))))))) []) fun q68=>
 bgd (F.both (F.eq x3 x3) (F.both (F.eq x43 x43) (F.both (F.eq v61 (F.mul .i64 x3 x43)) (F.both (F.eq x4 x4) (F.eq v62 (F.add .i64 v61 x4)))))) (
 bgd (F.has x55 v62) (
 obind (F.get x55 v62) fun q69=>
 bnd (F.add .i64 x4 1) fun v70=>
 frame_Render_i82_l3 fl n x0 x1 x2 x3 v70 x5 x6 x7 x8 x9 x10 x11 x12 x13 x14 x15 x16 x17 x18 x19 x20 x21 x22 x23 x24 x25 x26 x27 x28 x29 x30 x31 x32 x33 x34 x35 x36 x37 x38 x39 x40 x41 x42 x43 x44 x45 x46 x47 x48 x49 x50 x51 x52 x53 x54 (F.put x55 v62 q68) x56 x57 x58))))) (
 some (x0,(x1,(x2,(x3,(x5,(x6,(x7,(x8,(x9,(x10,(x11,(x12,(x13,(x14,(x15,(x16,(x17,(x18,(x19,(x20,(x21,(x22,(x23,(x24,(x25,(x26,(x27,(x28,(x29,(x30,(x31,(x32,(x33,(x34,(x35,(x36,(x37,(x38,(x39,(x40,(x41,(x42,(x43,(x44,(x45,(x46,(x47,(x48,(x49,(x50,(x51,(x52,(x53,(x54,(x55,(x56,(x57,(x58,())))))))))))))))))))))))))))))))))))))))))))))))))))))))))))
noncomputable def frame_Render_i82_l4 (fl:Nat):Nat -> Int -> Int -> Int -> Int -> T3 -> Int -> Int -> Int -> Int -> Int -> Int -> (List T3) -> Int -> Int -> Int -> Int -> Int -> Int -> Int -> Int -> Int -> Int -> Int -> Int -> Int -> Int -> Int -> Int -> Int -> Int -> Int -> Int -> Int -> Int -> Int -> Int -> Int -> Int -> T2 -> (List T1) -> Int -> Int -> Int -> Int -> Int -> Int -> Int -> Int -> T2 -> (List T1) -> Int -> Int -> Int -> Int -> (List T3) -> Int -> Int -> Int -> Option (T3 × Int × Int × Int × Int × Int × Int × (List T3) × Int × Int × Int × Int × Int × Int × Int × Int × Int × Int × Int × Int × Int × Int × Int × Int × Int × Int × Int × Int × Int × Int × Int × Int × Int × Int × T2 × (List T1) × Int × Int × Int × Int × Int × Int × Int × Int × T2 × (List T1) × Int × Int × Int × Int × (List T3) × Int × Int × Int × Unit)
 | 0,_,_,_,_,_,_,_,_,_,_,_,_,_,_,_,_,_,_,_,_,_,_,_,_,_,_,_,_,_,_,_,_,_,_,_,_,_,_,_,_,_,_,_,_,_,_,_,_,_,_,_,_,_,_,_,_,_,_=>none
 | n + 1,x0,x1,x2,x3,x4,x5,x6,x7,x8,x9,x10,x11,x12,x13,x14,x15,x16,x17,x18,x19,x20,x21,x22,x23,x24,x25,x26,x27,x28,x29,x30,x31,x32,x33,x34,x35,x36,x37,x38,x39,x40,x41,x42,x43,x44,x45,x46,x47,x48,x49,x50,x51,x52,x53,x54,x55,x56,x57=>
 bnd (F.lt x3 x0) fun v58=>
 bite v58 (
 obind (frame_Render_i82_l3 fl fl x0 x1 x2 x3 x1 x4 x5 x6 x7 x8 x9 x10 x11 x12 x13 x14 x15 x16 x17 x18 x19 x20 x21 x22 x23 x24 x25 x26 x27 x28 x29 x30 x31 x32 x33 x34 x35 x36 x37 x38 x39 x40 x41 x42 x43 x44 x45 x46 x47 x48 x49 x50 x51 x52 x53 x54 x55 x56 x57) fun q59=>
 bnd (F.add .i64 q59.2.2.2.1 1) fun v60=>
 frame_Render_i82_l4 fl n q59.1 q59.2.1 q59.2.2.1 v60 q59.2.2.2.2.1 q59.2.2.2.2.2.1 q59.2.2.2.2.2.2.1 q59.2.2.2.2.2.2.2.1 q59.2.2.2.2.2.2.2.2.1 q59.2.2.2.2.2.2.2.2.2.1 q59.2.2.2.2.2.2.2.2.2.2.1 q59.2.2.2.2.2.2.2.2.2.2.2.1 q59.2.2.2.2.2.2.2.2.2.2.2.2.1 q59.2.2.2.2.2.2.2.2.2.2.2.2.2.1 q59.2.2.2.2.2.2.2.2.2.2.2.2.2.2.1 q59.2.2.2.2.2.2.2.2.2.2.2.2.2.2.2.1 q59.2.2.2.2.2.2.2.2.2.2.2.2.2.2.2.2.1 q59.2.2.2.2.2.2.2.2.2.2.2.2.2.2.2.2.2.1 q59.2.2.2.2.2.2.2.2.2.2.2.2.2.2.2.2.2.2.1 q59.2.2.2.2.2.2.2.2.2.2.2.2.2.2.2.2.2.2.2.1 q59.2.2.2.2.2.2.2.2.2.2.2.2.2.2.2.2.2.2.2.2.1 q59.2.2.2.2.2.2.2.2.2.2.2.2.2.2.2.2.2.2.2.2.2.1 q59.2.2.2.2.2.2.2.2.2.2.2.2.2.2.2.2.2.2.2.2.2.2.1 q59.2.2.2.2.2.2.2.2.2.2.2.2.2.2.2.2.2.2.2.2.2.2.2.1 q59.2.2.2.2.2.2.2.2.2.2.2.2.2.2.2.2.2.2.2.2.2.2.2.2.1 q59.2.2.2.2.2.2.2.2.2.2.2.2.2.2.2.2.2.2.2.2.2.2.2.2.2.1 q59.2.2.2.2.2.2.2.2.2.2.2.2.2.2.2.2.2.2.2.2.2.2.2.2.2.2.1 q59.2.2.2.2.2.2.2.2.2.2.2.2.2.2.2.2.2.2.2.2.2.2.2.2.2.2.2.1 q59.2.2.2.2.2.2.2.2.2.2.2.2.2.2.2.2.2.2.2.2.2.2.2.2.2.2.2.2.1 q59.2.2.2.2.2.2.2.2.2.2.2.2.2.2.2.2.2.2.2.2.2.2.2.2.2.2.2.2.2.1 q59.2.2.2.2.2.2.2.2.2.2.2.2.2.2.2.2.2.2.2.2.2.2.2.2.2.2.2.2.2.2.1 q59.2.2.2.2.2.2.2.2.2.2.2.2.2.2.2.2.2.2.2.2.2.2.2.2.2.2.2.2.2.2.2.1 q59.2.2.2.2.2.2.2.2.2.2.2.2.2.2.2.2.2.2.2.2.2.2.2.2.2.2.2.2.2.2.2.2.1 q59.2.2.2.2.2.2.2.2.2.2.2.2.2.2.2.2.2.2.2.2.2.2.2.2.2.2.2.2.2.2.2.2.2.1 q59.2.2.2.2.2.2.2.2.2.2.2.2.2.2.2.2.2.2.2.2.2.2.2.2.2.2.2.2.2.2.2.2.2.2.1 q59.2.2.2.2.2.2.2.2.2.2.2.2.2.2.2.2.2.2.2.2.2.2.2.2.2.2.2.2.2.2.2.2.2.2.2.1 q59.2.2.2.2.2.2.2.2.2.2.2.2.2.2.2.2.2.2.2.2.2.2.2.2.2.2.2.2.2.2.2.2.2.2.2.2.1 q59.2.2.2.2.2.2.2.2.2.2.2.2.2.2.2.2.2.2.2.2.2.2.2.2.2.2.2.2.2.2.2.2.2.2.2.2.2.1 q59.2.2.2.2.2.2.2.2.2.2.2.2.2.2.2.2.2.2.2.2.2.2.2.2.2.2.2.2.2.2.2.2.2.2.2.2.2.2.1 q59.2.2.2.2.2.2.2.2.2.2.2.2.2.2.2.2.2.2.2.2.2.2.2.2.2.2.2.2.2.2.2.2.2.2.2.2.2.2.2.1 q59.2.2.2.2.2.2.2.2.2.2.2.2.2.2.2.2.2.2.2.2.2.2.2.2.2.2.2.2.2.2.2.2.2.2.2.2.2.2.2.2.1 q59.2.2.2.2.2.2.2.2.2.2.2.2.2.2.2.2.2.2.2.2.2.2.2.2.2.2.2.2.2.2.2.2.2.2.2.2.2.2.2.2.2.1 q59.2.2.2.2.2.2.2.2.2.2.2.2.2.2.2.2.2.2.2.2.2.2.2.2.2.2.2.2.2.2.2.2.2.2.2.2.2.2.2.2.2.2.1 q59.2.2.2.2.2.2.2.2.2.2.2.2.2.2.2.2.2.2.2.2.2.2.2.2.2.2.2.2.2.2.2.2.2.2.2.2.2.2.2.2.2.2.2.1 q59.2.2.2.2.2.2.2.2.2.2.2.2.2.2.2.2.2.2.2.2.2.2.2.2.2.2.2.2.2.2.2.2.2.2.2.2.2.2.2.2.2.2.2.2.1 q59.2.2.2.2.2.2.2.2.2.2.2.2.2.2.2.2.2.2.2.2.2.2.2.2.2.2.2.2.2.2.2.2.2.2.2.2.2.2.2.2.2.2.2.2.2.1 q59.2.2.2.2.2.2.2.2.2.2.2.2.2.2.2.2.2.2.2.2.2.2.2.2.2.2.2.2.2.2.2.2.2.2.2.2.2.2.2.2.2.2.2.2.2.2.1 q59.2.2.2.2.2.2.2.2.2.2.2.2.2.2.2.2.2.2.2.2.2.2.2.2.2.2.2.2.2.2.2.2.2.2.2.2.2.2.2.2.2.2.2.2.2.2.2.1 q59.2.2.2.2.2.2.2.2.2.2.2.2.2.2.2.2.2.2.2.2.2.2.2.2.2.2.2.2.2.2.2.2.2.2.2.2.2.2.2.2.2.2.2.2.2.2.2.2.1 q59.2.2.2.2.2.2.2.2.2.2.2.2.2.2.2.2.2.2.2.2.2.2.2.2.2.2.2.2.2.2.2.2.2.2.2.2.2.2.2.2.2.2.2.2.2.2.2.2.2.1 q59.2.2.2.2.2.2.2.2.2.2.2.2.2.2.2.2.2.2.2.2.2.2.2.2.2.2.2.2.2.2.2.2.2.2.2.2.2.2.2.2.2.2.2.2.2.2.2.2.2.2.1 q59.2.2.2.2.2.2.2.2.2.2.2.2.2.2.2.2.2.2.2.2.2.2.2.2.2.2.2.2.2.2.2.2.2.2.2.2.2.2.2.2.2.2.2.2.2.2.2.2.2.2.2.1 q59.2.2.2.2.2.2.2.2.2.2.2.2.2.2.2.2.2.2.2.2.2.2.2.2.2.2.2.2.2.2.2.2.2.2.2.2.2.2.2.2.2.2.2.2.2.2.2.2.2.2.2.2.1 q59.2.2.2.2.2.2.2.2.2.2.2.2.2.2.2.2.2.2.2.2.2.2.2.2.2.2.2.2.2.2.2.2.2.2.2.2.2.2.2.2.2.2.2.2.2.2.2.2.2.2.2.2.2.1 q59.2.2.2.2.2.2.2.2.2.2.2.2.2.2.2.2.2.2.2.2.2.2.2.2.2.2.2.2.2.2.2.2.2.2.2.2.2.2.2.2.2.2.2.2.2.2.2.2.2.2.2.2.2.2.1 q59.2.2.2.2.2.2.2.2.2.2.2.2.2.2.2.2.2.2.2.2.2.2.2.2.2.2.2.2.2.2.2.2.2.2.2.2.2.2.2.2.2.2.2.2.2.2.2.2.2.2.2.2.2.2.2.1 q59.2.2.2.2.2.2.2.2.2.2.2.2.2.2.2.2.2.2.2.2.2.2.2.2.2.2.2.2.2.2.2.2.2.2.2.2.2.2.2.2.2.2.2.2.2.2.2.2.2.2.2.2.2.2.2.2.1 q59.2.2.2.2.2.2.2.2.2.2.2.2.2.2.2.2.2.2.2.2.2.2.2.2.2.2.2.2.2.2.2.2.2.2.2.2.2.2.2.2.2.2.2.2.2.2.2.2.2.2.2.2.2.2.2.2.2.1) (
 some (x4,(x5,(x6,(x7,(x8,(x9,(x10,(x11,(x12,(x13,(x14,(x15,(x16,(x17,(x18,(x19,(x20,(x21,(x22,(x23,(x24,(x25,(x26,(x27,(x28,(x29,(x30,(x31,(x32,(x33,(x34,(x35,(x36,(x37,(x38,(x39,(x40,(x41,(x42,(x43,(x44,(x45,(x46,(x47,(x48,(x49,(x50,(x51,(x52,(x53,(x54,(x55,(x56,(x57,())))))))))))))))))))))))))))))))))))))))))))))))))))))))
noncomputable def frame_Render_l1 (fl:Nat):Nat -> (List T3) -> Int -> Int -> Int -> Int -> Int -> Int -> Int -> Int -> T2 -> (List T1) -> Int -> Int -> Int -> Int -> Int -> Int -> Int -> Int -> T2 -> (List T1) -> Int -> Int -> Int -> Int -> (List T3) -> Int -> Int -> Int -> Option (Int × Int × Int × Int × Int × Int × T2 × (List T1) × Int × Int × Int × Int × Int × Int × Int × Int × T2 × (List T1) × Int × Int × Int × Int × (List T3) × Int × Int × Int × Unit)
 | 0,_,_,_,_,_,_,_,_,_,_,_,_,_,_,_,_,_,_,_,_,_,_,_,_,_,_,_,_,_=>none
 | n + 1,x0,x1,x2,x3,x4,x5,x6,x7,x8,x9,x10,x11,x12,x13,x14,x15,x16,x17,x18,x19,x20,x21,x22,x23,x24,x25,x26,x27,x28=>
 bnd (F.lt x2 x1) fun v29=>
 bite v29 (
 obind (F.get x0 x2) fun q30=>
 nilE 0 (
 obind (pool_New x21) fun q31=>
 bnd (F.len x10) fun v32=>
 obind (frame_Render_i79_l6 fl fl x10 v32 0 x2 x2 x0 x1 x2 x2 x3 x4 x5 x6 x7 x8 x9 x10 q30.1 q30.2.1 q30.2.2.1 q30.2.2.2 q30.1 q30.2.1 q30.2.2.1 q30.2.2.2 q30.1 q30.2.1 q30.2.2.1 q30.2.2.2 q31.1 q30.1 q30.2.1 q30.2.2.1 q30.2.2.2 q30.1 q30.2.1 q30.2.2.1 q30.2.2.2 x3 x4 x5 x6 x7 x8 x9 x10 x11 x12 x13 x14 x15 x16 x17 x18 x19 x20 x21 x22 x23 x24 x25 x26 x27 x28) fun q33=>
 obind (frame_pixels (q33.2.2.2.2.2.2.2.2.2.2.2.2.2.2.2.2.2.2.1,(q33.2.2.2.2.2.2.2.2.2.2.2.2.2.2.2.2.2.2.2.1,(q33.2.2.2.2.2.2.2.2.2.2.2.2.2.2.2.2.2.2.2.2.1,q33.2.2.2.2.2.2.2.2.2.2.2.2.2.2.2.2.2.2.2.2.2.1)))) fun q34=>
 obind (frame_Render_i82_l4 fl fl q34.2.1 q34.2.2.1 q34.2.2.2 q34.1 q34 q33.1 q33.2.2.2.2.2.2.2.2.2.2.2.2.2.2.2.2.2.2.1 q33.2.2.2.2.2.2.2.2.2.2.2.2.2.2.2.2.2.2.2.1 q33.2.2.2.2.2.2.2.2.2.2.2.2.2.2.2.2.2.2.2.2.1 q33.2.2.2.2.2.2.2.2.2.2.2.2.2.2.2.2.2.2.2.2.2.1 q33.2.1 q33.2.2.1 q33.2.2.2.1 q33.2.2.2.2.1 q33.2.2.2.2.2.1 q33.2.2.2.2.2.2.2.2.2.2.2.2.2.2.2.2.2.2.1 q33.2.2.2.2.2.2.2.2.2.2.2.2.2.2.2.2.2.2.2.1 q33.2.2.2.2.2.2.2.2.2.2.2.2.2.2.2.2.2.2.2.2.1 q33.2.2.2.2.2.2.2.2.2.2.2.2.2.2.2.2.2.2.2.2.2.1 q33.2.2.2.2.2.2.2.2.2.2.2.2.2.2.2.2.2.2.2.2.2.2.1 q33.2.2.2.2.2.2.2.2.2.2.2.2.2.2.2.2.2.2.2.2.2.2.2.1 q33.2.2.2.2.2.2.2.2.2.2.2.2.2.2.2.2.2.2.2.2.2.2.2.2.1 q33.2.2.2.2.2.2.2.2.2.2.2.2.2.2.2.2.2.2.2.2.2.2.2.2.2.1 q33.2.2.2.2.2.2.2.2.2.2.2.2.2.2.2.2.2.2.2.2.2.2.2.2.2.2.1 q33.2.2.2.2.2.2.2.2.2.2.2.2.2.2.2.2.2.2.2.2.2.2.2.2.2.2.2.1 q33.2.2.2.2.2.2.2.2.2.2.2.2.2.2.2.2.2.2.2.2.2.2.2.2.2.2.2.2.1 q33.2.2.2.2.2.2.2.2.2.2.2.2.2.2.2.2.2.2.2.2.2.2.2.2.2.2.2.2.2.1 q33.2.2.2.2.2.2.2.2.2.2.2.2.2.2.2.2.2.2.2.2.2.2.2.2.2.2.2.2.2.2.1 q33.2.2.2.2.2.2.2.2.2.2.2.2.2.2.2.2.2.2.2.2.2.2.2.2.2.2.2.2.2.2.2.1 q33.2.2.2.2.2.2.2.2.2.2.2.2.2.2.2.2.2.2.2.2.2.2.2.2.2.2.2.2.2.2.2.2.1 q33.2.2.2.2.2.2.2.2.2.2.2.2.2.2.2.2.2.2.2.2.2.2.2.2.2.2.2.2.2.2.2.2.2.1 q33.2.2.2.2.2.2.2.2.2.2.2.2.2.2.2.2.2.2.2.2.2.2.2.2.2.2.2.2.2.2.2.2.2.2.1 q33.2.2.2.2.2.2.2.2.2.2.2.2.2.2.2.2.2.2.2.2.2.2.2.2.2.2.2.2.2.2.2.2.2.2.2.1 q33.2.2.2.2.2.2.2.2.2.2.2.2.2.2.2.2.2.2.2.2.2.2.2.2.2.2.2.2.2.2.2.2.2.2.2.2.1 q33.2.2.2.2.2.2.2.2.2.2.2.2.2.2.2.2.2.2.2.2.2.2.2.2.2.2.2.2.2.2.2.2.2.2.2.2.2.1 q33.2.2.2.2.2.2.2.2.2.2.2.2.2.2.2.2.2.2.2.2.2.2.2.2.2.2.2.2.2.2.2.2.2.2.2.2.2.2.1 q33.2.2.2.2.2.2.2.2.2.2.2.2.2.2.2.2.2.2.2.2.2.2.2.2.2.2.2.2.2.2.2.2.2.2.2.2.2.2.2.1 q33.2.2.2.2.2.2.2.2.2.2.2.2.2.2.2.2.2.2.2.2.2.2.2.2.2.2.2.2.2.2.2.2.2.2.2.2.2.2.2.2.1 q33.2.2.2.2.2.2.2.2.2.2.2.2.2.2.2.2.2.2.2.2.2.2.2.2.2.2.2.2.2.2.2.2.2.2.2.2.2.2.2.2.2.1 q33.2.2.2.2.2.2.2.2.2.2.2.2.2.2.2.2.2.2.2.2.2.2.2.2.2.2.2.2.2.2.2.2.2.2.2.2.2.2.2.2.2.2.1 q33.2.2.2.2.2.2.2.2.2.2.2.2.2.2.2.2.2.2.2.2.2.2.2.2.2.2.2.2.2.2.2.2.2.2.2.2.2.2.2.2.2.2.2.1 q33.2.2.2.2.2.2.2.2.2.2.2.2.2.2.2.2.2.2.2.2.2.2.2.2.2.2.2.2.2.2.2.2.2.2.2.2.2.2.2.2.2.2.2.2.1 q33.2.2.2.2.2.2.2.2.2.2.2.2.2.2.2.2.2.2.2.2.2.2.2.2.2.2.2.2.2.2.2.2.2.2.2.2.2.2.2.2.2.2.2.2.2.1 q33.2.2.2.2.2.2.2.2.2.2.2.2.2.2.2.2.2.2.2.2.2.2.2.2.2.2.2.2.2.2.2.2.2.2.2.2.2.2.2.2.2.2.2.2.2.2.1 q33.2.2.2.2.2.2.2.2.2.2.2.2.2.2.2.2.2.2.2.2.2.2.2.2.2.2.2.2.2.2.2.2.2.2.2.2.2.2.2.2.2.2.2.2.2.2.2.1 q33.2.2.2.2.2.2.2.2.2.2.2.2.2.2.2.2.2.2.2.2.2.2.2.2.2.2.2.2.2.2.2.2.2.2.2.2.2.2.2.2.2.2.2.2.2.2.2.2.1 q33.2.2.2.2.2.2.2.2.2.2.2.2.2.2.2.2.2.2.2.2.2.2.2.2.2.2.2.2.2.2.2.2.2.2.2.2.2.2.2.2.2.2.2.2.2.2.2.2.2.1 q33.2.2.2.2.2.2.2.2.2.2.2.2.2.2.2.2.2.2.2.2.2.2.2.2.2.2.2.2.2.2.2.2.2.2.2.2.2.2.2.2.2.2.2.2.2.2.2.2.2.2.1 q33.2.2.2.2.2.2.2.2.2.2.2.2.2.2.2.2.2.2.2.2.2.2.2.2.2.2.2.2.2.2.2.2.2.2.2.2.2.2.2.2.2.2.2.2.2.2.2.2.2.2.2.1 q33.2.2.2.2.2.2.2.2.2.2.2.2.2.2.2.2.2.2.2.2.2.2.2.2.2.2.2.2.2.2.2.2.2.2.2.2.2.2.2.2.2.2.2.2.2.2.2.2.2.2.2.2.1 q33.2.2.2.2.2.2.2.2.2.2.2.2.2.2.2.2.2.2.2.2.2.2.2.2.2.2.2.2.2.2.2.2.2.2.2.2.2.2.2.2.2.2.2.2.2.2.2.2.2.2.2.2.2.1 q33.2.2.2.2.2.2.2.2.2.2.2.2.2.2.2.2.2.2.2.2.2.2.2.2.2.2.2.2.2.2.2.2.2.2.2.2.2.2.2.2.2.2.2.2.2.2.2.2.2.2.2.2.2.2.1 q33.2.2.2.2.2.2.2.2.2.2.2.2.2.2.2.2.2.2.2.2.2.2.2.2.2.2.2.2.2.2.2.2.2.2.2.2.2.2.2.2.2.2.2.2.2.2.2.2.2.2.2.2.2.2.2.1 q33.2.2.2.2.2.2.2.2.2.2.2.2.2.2.2.2.2.2.2.2.2.2.2.2.2.2.2.2.2.2.2.2.2.2.2.2.2.2.2.2.2.2.2.2.2.2.2.2.2.2.2.2.2.2.2.2.1 q33.2.2.2.2.2.2.2.2.2.2.2.2.2.2.2.2.2.2.2.2.2.2.2.2.2.2.2.2.2.2.2.2.2.2.2.2.2.2.2.2.2.2.2.2.2.2.2.2.2.2.2.2.2.2.2.2.2.1 q33.2.2.2.2.2.2.2.2.2.2.2.2.2.2.2.2.2.2.2.2.2.2.2.2.2.2.2.2.2.2.2.2.2.2.2.2.2.2.2.2.2.2.2.2.2.2.2.2.2.2.2.2.2.2.2.2.2.2.1 q33.2.2.2.2.2.2.2.2.2.2.2.2.2.2.2.2.2.2.2.2.2.2.2.2.2.2.2.2.2.2.2.2.2.2.2.2.2.2.2.2.2.2.2.2.2.2.2.2.2.2.2.2.2.2.2.2.2.2.2.1 q33.2.2.2.2.2.2.2.2.2.2.2.2.2.2.2.2.2.2.2.2.2.2.2.2.2.2.2.2.2.2.2.2.2.2.2.2.2.2.2.2.2.2.2.2.2.2.2.2.2.2.2.2.2.2.2.2.2.2.2.2.1) fun q35=>
 bnd (F.max q35.2.2.2.2.2.2.2.2.2.2.2.2.2.2.2.2.2.2.2.2.2.2.2.2.2.2.2.2.2.2.2.2.2.2.2.2.2.2.2.2.2.2.2.2.2.2.2.2.2.2.2.1 1) fun v36=>
 obind (pool_Pool (q35.2.2.2.2.2.2.2.2.2.2.2.2.2.2.2.2.2.2.2.1,((-1),(0,(0,[]))))) fun q37=>
 bnd q37 fun v38=>
 bgd (F.eq q35.2.2.2.2.2.2.2.2.2.2.2.2.2.2.2.2.2.2.2.2.2.2.2.2.2.2.2.2.2.2.2.2.2.2.2.2.2.2.2.2.2.2.2.2.2.2.2.2.2.2.2.2.1 q35.2.2.2.2.2.2.2.2.2.2.2.2.2.2.2.2.2.2.2.2.2.2.2.2.2.2.2.2.2.2.2.2.2.2.2.2.2.2.2.2.2.2.2.2.2.2.2.2.2.2.2.2.1) (
 bnd (F.max q35.2.2.2.2.2.2.2.2.2.2.2.2.2.2.2.2.2.2.2.2.2.2.2.2.2.2.2.2.2.2.2.2.2.2.2.2.2.2.2.2.2.2.2.2.2.2.2.2.2.2.2.2.1 v38) fun v39=>
 obind (pool_Pool__2 (q35.2.2.2.2.2.2.2.2.2.2.2.2.2.2.2.2.2.2.2.1,((-1),(0,(0,[]))))) fun q40=>
 bnd q40 fun v41=>
 bgd (F.eq q35.2.2.2.2.2.2.2.2.2.2.2.2.2.2.2.2.2.2.2.2.2.2.2.2.2.2.2.2.2.2.2.2.2.2.2.2.2.2.2.2.2.2.2.2.2.2.2.2.2.2.2.2.2.1 q35.2.2.2.2.2.2.2.2.2.2.2.2.2.2.2.2.2.2.2.2.2.2.2.2.2.2.2.2.2.2.2.2.2.2.2.2.2.2.2.2.2.2.2.2.2.2.2.2.2.2.2.2.2.1) (
 bnd (F.add .i64 q35.2.2.2.2.2.2.2.2.2.2.2.2.2.2.2.2.2.2.2.2.2.2.2.2.2.2.2.2.2.2.2.2.2.2.2.2.2.2.2.2.2.2.2.2.2.2.2.2.2.2.2.2.2.1 v41) fun v42=>
 bnd (F.add .i64 q35.2.2.2.2.2.2.2.2.2.1 1) fun v43=>
 frame_Render_l1 fl n q35.2.2.2.2.2.2.2.1 q35.2.2.2.2.2.2.2.2.1 v43 q35.2.2.2.2.2.2.2.2.2.2.2.2.2.2.2.2.2.2.2.2.2.2.2.2.2.2.2.2.1 q35.2.2.2.2.2.2.2.2.2.2.2.2.2.2.2.2.2.2.2.2.2.2.2.2.2.2.2.2.2.1 q35.2.2.2.2.2.2.2.2.2.2.2.2.2.2.2.2.2.2.2.2.2.2.2.2.2.2.2.2.2.2.1 q35.2.2.2.2.2.2.2.2.2.2.2.2.2.2.2.2.2.2.2.2.2.2.2.2.2.2.2.2.2.2.2.1 q35.2.2.2.2.2.2.2.2.2.2.2.2.2.2.2.2.2.2.2.2.2.2.2.2.2.2.2.2.2.2.2.2.1 q35.2.2.2.2.2.2.2.2.2.2.2.2.2.2.2.2.2.2.2.2.2.2.2.2.2.2.2.2.2.2.2.2.2.1 q35.2.2.2.2.2.2.2.2.2.2.2.2.2.2.2.2.2.2.2.2.2.2.2.2.2.2.2.2.2.2.2.2.2.2.1 q35.2.2.2.2.2.2.2.2.2.2.2.2.2.2.2.2.2.2.2.2.2.2.2.2.2.2.2.2.2.2.2.2.2.2.2.1 q35.2.2.2.2.2.2.2.2.2.2.2.2.2.2.2.2.2.2.2.2.2.2.2.2.2.2.2.2.2.2.2.2.2.2.2.2.1 q35.2.2.2.2.2.2.2.2.2.2.2.2.2.2.2.2.2.2.2.2.2.2.2.2.2.2.2.2.2.2.2.2.2.2.2.2.2.1 q35.2.2.2.2.2.2.2.2.2.2.2.2.2.2.2.2.2.2.2.2.2.2.2.2.2.2.2.2.2.2.2.2.2.2.2.2.2.2.1 q35.2.2.2.2.2.2.2.2.2.2.2.2.2.2.2.2.2.2.2.2.2.2.2.2.2.2.2.2.2.2.2.2.2.2.2.2.2.2.2.1 q35.2.2.2.2.2.2.2.2.2.2.2.2.2.2.2.2.2.2.2.2.2.2.2.2.2.2.2.2.2.2.2.2.2.2.2.2.2.2.2.2.1 q35.2.2.2.2.2.2.2.2.2.2.2.2.2.2.2.2.2.2.2.2.2.2.2.2.2.2.2.2.2.2.2.2.2.2.2.2.2.2.2.2.2.1 q35.2.2.2.2.2.2.2.2.2.2.2.2.2.2.2.2.2.2.2.2.2.2.2.2.2.2.2.2.2.2.2.2.2.2.2.2.2.2.2.2.2.2.1 q35.2.2.2.2.2.2.2.2.2.2.2.2.2.2.2.2.2.2.2.2.2.2.2.2.2.2.2.2.2.2.2.2.2.2.2.2.2.2.2.2.2.2.2.1 q35.2.2.2.2.2.2.2.2.2.2.2.2.2.2.2.2.2.2.2.2.2.2.2.2.2.2.2.2.2.2.2.2.2.2.2.2.2.2.2.2.2.2.2.2.1 q35.2.2.2.2.2.2.2.2.2.2.2.2.2.2.2.2.2.2.2.2.2.2.2.2.2.2.2.2.2.2.2.2.2.2.2.2.2.2.2.2.2.2.2.2.2.1 q35.2.2.2.2.2.2.2.2.2.2.2.2.2.2.2.2.2.2.2.2.2.2.2.2.2.2.2.2.2.2.2.2.2.2.2.2.2.2.2.2.2.2.2.2.2.2.1 q35.2.2.2.2.2.2.2.2.2.2.2.2.2.2.2.2.2.2.2.2.2.2.2.2.2.2.2.2.2.2.2.2.2.2.2.2.2.2.2.2.2.2.2.2.2.2.2.1 q35.2.2.2.2.2.2.2.2.2.2.2.2.2.2.2.2.2.2.2.2.2.2.2.2.2.2.2.2.2.2.2.2.2.2.2.2.2.2.2.2.2.2.2.2.2.2.2.2.1 q35.2.2.2.2.2.2.2.2.2.2.2.2.2.2.2.2.2.2.2.2.2.2.2.2.2.2.2.2.2.2.2.2.2.2.2.2.2.2.2.2.2.2.2.2.2.2.2.2.2.1 q35.2.2.2.2.2.2.2.2.2.2.2.2.2.2.2.2.2.2.2.2.2.2.2.2.2.2.2.2.2.2.2.2.2.2.2.2.2.2.2.2.2.2.2.2.2.2.2.2.2.2.1 v36 v39 v42))) (
 obind (pool_New x21) fun q44=>
 bnd (F.len x10) fun v45=>
 obind (frame_Render_i79_l6 fl fl x10 v45 0 x2 x2 x0 x1 x2 x2 x3 x4 x5 x6 x7 x8 x9 x10 q30.1 q30.2.1 q30.2.2.1 q30.2.2.2 q30.1 q30.2.1 q30.2.2.1 q30.2.2.2 q30.1 q30.2.1 q30.2.2.1 q30.2.2.2 q44.1 q30.1 q30.2.1 q30.2.2.1 q30.2.2.2 q30.1 q30.2.1 q30.2.2.1 q30.2.2.2 x3 x4 x5 x6 x7 x8 x9 x10 x11 x12 x13 x14 x15 x16 x17 x18 x19 x20 x21 x22 x23 x24 x25 x26 x27 x28) fun q46=>
 obind (frame_pixels (q46.2.2.2.2.2.2.2.2.2.2.2.2.2.2.2.2.2.2.1,(q46.2.2.2.2.2.2.2.2.2.2.2.2.2.2.2.2.2.2.2.1,(q46.2.2.2.2.2.2.2.2.2.2.2.2.2.2.2.2.2.2.2.2.1,q46.2.2.2.2.2.2.2.2.2.2.2.2.2.2.2.2.2.2.2.2.2.1)))) fun q47=>
 obind (frame_Render_i82_l4 fl fl q47.2.1 q47.2.2.1 q47.2.2.2 q47.1 q47 q46.1 q46.2.2.2.2.2.2.2.2.2.2.2.2.2.2.2.2.2.2.1 q46.2.2.2.2.2.2.2.2.2.2.2.2.2.2.2.2.2.2.2.1 q46.2.2.2.2.2.2.2.2.2.2.2.2.2.2.2.2.2.2.2.2.1 q46.2.2.2.2.2.2.2.2.2.2.2.2.2.2.2.2.2.2.2.2.2.1 q46.2.1 q46.2.2.1 q46.2.2.2.1 q46.2.2.2.2.1 q46.2.2.2.2.2.1 q46.2.2.2.2.2.2.2.2.2.2.2.2.2.2.2.2.2.2.1 q46.2.2.2.2.2.2.2.2.2.2.2.2.2.2.2.2.2.2.2.1 q46.2.2.2.2.2.2.2.2.2.2.2.2.2.2.2.2.2.2.2.2.1 q46.2.2.2.2.2.2.2.2.2.2.2.2.2.2.2.2.2.2.2.2.2.1 q46.2.2.2.2.2.2.2.2.2.2.2.2.2.2.2.2.2.2.2.2.2.2.1 q46.2.2.2.2.2.2.2.2.2.2.2.2.2.2.2.2.2.2.2.2.2.2.2.1 q46.2.2.2.2.2.2.2.2.2.2.2.2.2.2.2.2.2.2.2.2.2.2.2.2.1 q46.2.2.2.2.2.2.2.2.2.2.2.2.2.2.2.2.2.2.2.2.2.2.2.2.2.1 q46.2.2.2.2.2.2.2.2.2.2.2.2.2.2.2.2.2.2.2.2.2.2.2.2.2.2.1 q46.2.2.2.2.2.2.2.2.2.2.2.2.2.2.2.2.2.2.2.2.2.2.2.2.2.2.2.1 q46.2.2.2.2.2.2.2.2.2.2.2.2.2.2.2.2.2.2.2.2.2.2.2.2.2.2.2.2.1 q46.2.2.2.2.2.2.2.2.2.2.2.2.2.2.2.2.2.2.2.2.2.2.2.2.2.2.2.2.2.1 q46.2.2.2.2.2.2.2.2.2.2.2.2.2.2.2.2.2.2.2.2.2.2.2.2.2.2.2.2.2.2.1 q46.2.2.2.2.2.2.2.2.2.2.2.2.2.2.2.2.2.2.2.2.2.2.2.2.2.2.2.2.2.2.2.1 q46.2.2.2.2.2.2.2.2.2.2.2.2.2.2.2.2.2.2.2.2.2.2.2.2.2.2.2.2.2.2.2.2.1 q46.2.2.2.2.2.2.2.2.2.2.2.2.2.2.2.2.2.2.2.2.2.2.2.2.2.2.2.2.2.2.2.2.2.1 q46.2.2.2.2.2.2.2.2.2.2.2.2.2.2.2.2.2.2.2.2.2.2.2.2.2.2.2.2.2.2.2.2.2.2.1 q46.2.2.2.2.2.2.2.2.2.2.2.2.2.2.2.2.2.2.2.2.2.2.2.2.2.2.2.2.2.2.2.2.2.2.2.1 q46.2.2.2.2.2.2.2.2.2.2.2.2.2.2.2.2.2.2.2.2.2.2.2.2.2.2.2.2.2.2.2.2.2.2.2.2.1 q46.2.2.2.2.2.2.2.2.2.2.2.2.2.2.2.2.2.2.2.2.2.2.2.2.2.2.2.2.2.2.2.2.2.2.2.2.2.1 q46.2.2.2.2.2.2.2.2.2.2.2.2.2.2.2.2.2.2.2.2.2.2.2.2.2.2.2.2.2.2.2.2.2.2.2.2.2.2.1 q46.2.2.2.2.2.2.2.2.2.2.2.2.2.2.2.2.2.2.2.2.2.2.2.2.2.2.2.2.2.2.2.2.2.2.2.2.2.2.2.1 q46.2.2.2.2.2.2.2.2.2.2.2.2.2.2.2.2.2.2.2.2.2.2.2.2.2.2.2.2.2.2.2.2.2.2.2.2.2.2.2.2.1 q46.2.2.2.2.2.2.2.2.2.2.2.2.2.2.2.2.2.2.2.2.2.2.2.2.2.2.2.2.2.2.2.2.2.2.2.2.2.2.2.2.2.1 q46.2.2.2.2.2.2.2.2.2.2.2.2.2.2.2.2.2.2.2.2.2.2.2.2.2.2.2.2.2.2.2.2.2.2.2.2.2.2.2.2.2.2.1 q46.2.2.2.2.2.2.2.2.2.2.2.2.2.2.2.2.2.2.2.2.2.2.2.2.2.2.2.2.2.2.2.2.2.2.2.2.2.2.2.2.2.2.2.1 q46.2.2.2.2.2.2.2.2.2.2.2.2.2.2.2.2.2.2.2.2.2.2.2.2.2.2.2.2.2.2.2.2.2.2.2.2.2.2.2.2.2.2.2.2.1 q46.2.2.2.2.2.2.2.2.2.2.2.2.2.2.2.2.2.2.2.2.2.2.2.2.2.2.2.2.2.2.2.2.2.2.2.2.2.2.2.2.2.2.2.2.2.1 q46.2.2.2.2.2.2.2.2.2.2.2.2.2.2.2.2.2.2.2.2.2.2.2.2.2.2.2.2.2.2.2.2.2.2.2.2.2.2.2.2.2.2.2.2.2.2.1 q46.2.2.2.2.2.2.2.2.2.2.2.2.2.2.2.2.2.2.2.2.2.2.2.2.2.2.2.2.2.2.2.2.2.2.2.2.2.2.2.2.2.2.2.2.2.2.2.1 q46.2.2.2.2.2.2.2.2.2.2.2.2.2.2.2.2.2.2.2.2.2.2.2.2.2.2.2.2.2.2.2.2.2.2.2.2.2.2.2.2.2.2.2.2.2.2.2.2.1 q46.2.2.2.2.2.2.2.2.2.2.2.2.2.2.2.2.2.2.2.2.2.2.2.2.2.2.2.2.2.2.2.2.2.2.2.2.2.2.2.2.2.2.2.2.2.2.2.2.2.1 q46.2.2.2.2.2.2.2.2.2.2.2.2.2.2.2.2.2.2.2.2.2.2.2.2.2.2.2.2.2.2.2.2.2.2.2.2.2.2.2.2.2.2.2.2.2.2.2.2.2.2.1 q46.2.2.2.2.2.2.2.2.2.2.2.2.2.2.2.2.2.2.2.2.2.2.2.2.2.2.2.2.2.2.2.2.2.2.2.2.2.2.2.2.2.2.2.2.2.2.2.2.2.2.2.1 q46.2.2.2.2.2.2.2.2.2.2.2.2.2.2.2.2.2.2.2.2.2.2.2.2.2.2.2.2.2.2.2.2.2.2.2.2.2.2.2.2.2.2.2.2.2.2.2.2.2.2.2.2.1 q46.2.2.2.2.2.2.2.2.2.2.2.2.2.2.2.2.2.2.2.2.2.2.2.2.2.2.2.2.2.2.2.2.2.2.2.2.2.2.2.2.2.2.2.2.2.2.2.2.2.2.2.2.2.1 q46.2.2.2.2.2.2.2.2.2.2.2.2.2.2.2.2.2.2.2.2.2.2.2.2.2.2.2.2.2.2.2.2.2.2.2.2.2.2.2.2.2.2.2.2.2.2.2.2.2.2.2.2.2.2.1 q46.2.2.2.2.2.2.2.2.2.2.2.2.2.2.2.2.2.2.2.2.2.2.2.2.2.2.2.2.2.2.2.2.2.2.2.2.2.2.2.2.2.2.2.2.2.2.2.2.2.2.2.2.2.2.2.1 q46.2.2.2.2.2.2.2.2.2.2.2.2.2.2.2.2.2.2.2.2.2.2.2.2.2.2.2.2.2.2.2.2.2.2.2.2.2.2.2.2.2.2.2.2.2.2.2.2.2.2.2.2.2.2.2.2.1 q46.2.2.2.2.2.2.2.2.2.2.2.2.2.2.2.2.2.2.2.2.2.2.2.2.2.2.2.2.2.2.2.2.2.2.2.2.2.2.2.2.2.2.2.2.2.2.2.2.2.2.2.2.2.2.2.2.2.1 q46.2.2.2.2.2.2.2.2.2.2.2.2.2.2.2.2.2.2.2.2.2.2.2.2.2.2.2.2.2.2.2.2.2.2.2.2.2.2.2.2.2.2.2.2.2.2.2.2.2.2.2.2.2.2.2.2.2.2.1 q46.2.2.2.2.2.2.2.2.2.2.2.2.2.2.2.2.2.2.2.2.2.2.2.2.2.2.2.2.2.2.2.2.2.2.2.2.2.2.2.2.2.2.2.2.2.2.2.2.2.2.2.2.2.2.2.2.2.2.2.1 q46.2.2.2.2.2.2.2.2.2.2.2.2.2.2.2.2.2.2.2.2.2.2.2.2.2.2.2.2.2.2.2.2.2.2.2.2.2.2.2.2.2.2.2.2.2.2.2.2.2.2.2.2.2.2.2.2.2.2.2.2.1) fun q48=>
 bnd (F.max q48.2.2.2.2.2.2.2.2.2.2.2.2.2.2.2.2.2.2.2.2.2.2.2.2.2.2.2.2.2.2.2.2.2.2.2.2.2.2.2.2.2.2.2.2.2.2.2.2.2.2.2.1 1) fun v49=>
 obind (pool_Pool (q48.2.2.2.2.2.2.2.2.2.2.2.2.2.2.2.2.2.2.2.1,((-1),(0,(0,[]))))) fun q50=>
 bnd q50 fun v51=>
 bgd (F.eq q48.2.2.2.2.2.2.2.2.2.2.2.2.2.2.2.2.2.2.2.2.2.2.2.2.2.2.2.2.2.2.2.2.2.2.2.2.2.2.2.2.2.2.2.2.2.2.2.2.2.2.2.2.1 q48.2.2.2.2.2.2.2.2.2.2.2.2.2.2.2.2.2.2.2.2.2.2.2.2.2.2.2.2.2.2.2.2.2.2.2.2.2.2.2.2.2.2.2.2.2.2.2.2.2.2.2.2.1) (
 bnd (F.max q48.2.2.2.2.2.2.2.2.2.2.2.2.2.2.2.2.2.2.2.2.2.2.2.2.2.2.2.2.2.2.2.2.2.2.2.2.2.2.2.2.2.2.2.2.2.2.2.2.2.2.2.2.1 v51) fun v52=>
 obind (pool_Pool__2 (q48.2.2.2.2.2.2.2.2.2.2.2.2.2.2.2.2.2.2.2.1,((-1),(0,(0,[]))))) fun q53=>
 bnd q53 fun v54=>
 bgd (F.eq q48.2.2.2.2.2.2.2.2.2.2.2.2.2.2.2.2.2.2.2.2.2.2.2.2.2.2.2.2.2.2.2.2.2.2.2.2.2.2.2.2.2.2.2.2.2.2.2.2.2.2.2.2.2.1 q48.2.2.2.2.2.2.2.2.2.2.2.2.2.2.2.2.2.2.2.2.2.2.2.2.2.2.2.2.2.2.2.2.2.2.2.2.2.2.2.2.2.2.2.2.2.2.2.2.2.2.2.2.2.1) (
 bnd (F.add .i64 q48.2.2.2.2.2.2.2.2.2.2.2.2.2.2.2.2.2.2.2.2.2.2.2.2.2.2.2.2.2.2.2.2.2.2.2.2.2.2.2.2.2.2.2.2.2.2.2.2.2.2.2.2.2.1 v54) fun v55=>
 bnd (F.add .i64 q48.2.2.2.2.2.2.2.2.2.1 1) fun v56=>
 frame_Render_l1 fl n q48.2.2.2.2.2.2.2.1 q48.2.2.2.2.2.2.2.2.1 v56 q48.2.2.2.2.2.2.2.2.2.2.2.2.2.2.2.2.2.2.2.2.2.2.2.2.2.2.2.2.1 q48.2.2.2.2.2.2.2.2.2.2.2.2.2.2.2.2.2.2.2.2.2.2.2.2.2.2.2.2.2.1 q48.2.2.2.2.2.2.2.2.2.2.2.2.2.2.2.2.2.2.2.2.2.2.2.2.2.2.2.2.2.2.1 q48.2.2.2.2.2.2.2.2.2.2.2.2.2.2.2.2.2.2.2.2.2.2.2.2.2.2.2.2.2.2.2.1 q48.2.2.2.2.2.2.2.2.2.2.2.2.2.2.2.2.2.2.2.2.2.2.2.2.2.2.2.2.2.2.2.2.1 q48.2.2.2.2.2.2.2.2.2.2.2.2.2.2.2.2.2.2.2.2.2.2.2.2.2.2.2.2.2.2.2.2.2.1 q48.2.2.2.2.2.2.2.2.2.2.2.2.2.2.2.2.2.2.2.2.2.2.2.2.2.2.2.2.2.2.2.2.2.2.1 q48.2.2.2.2.2.2.2.2.2.2.2.2.2.2.2.2.2.2.2.2.2.2.2.2.2.2.2.2.2.2.2.2.2.2.2.1 q48.2.2.2.2.2.2.2.2.2.2.2.2.2.2.2.2.2.2.2.2.2.2.2.2.2.2.2.2.2.2.2.2.2.2.2.2.1 q48.2.2.2.2.2.2.2.2.2.2.2.2.2.2.2.2.2.2.2.2.2.2.2.2.2.2.2.2.2.2.2.2.2.2.2.2.2.1 q48.2.2.2.2.2.2.2.2.2.2.2.2.2.2.2.2.2.2.2.2.2.2.2.2.2.2.2.2.2.2.2.2.2.2.2.2.2.2.1 q48.2.2.2.2.2.2.2.2.2.2.2.2.2.2.2.2.2.2.2.2.2.2.2.2.2.2.2.2.2.2.2.2.2.2.2.2.2.2.2.1 q48.2.2.2.2.2.2.2.2.2.2.2.2.2.2.2.2.2.2.2.2.2.2.2.2.2.2.2.2.2.2.2.2.2.2.2.2.2.2.2.2.1 q48.2.2.2.2.2.2.2.2.2.2.2.2.2.2.2.2.2.2.2.2.2.2.2.2.2.2.2.2.2.2.2.2.2.2.2.2.2.2.2.2.2.1 q48.2.2.2.2.2.2.2.2.2.2.2.2.2.2.2.2.2.2.2.2.2.2.2.2.2.2.2.2.2.2.2.2.2.2.2.2.2.2.2.2.2.2.1 q48.2.2.2.2.2.2.2.2.2.2.2.2.2.2.2.2.2.2.2.2.2.2.2.2.2.2.2.2.2.2.2.2.2.2.2.2.2.2.2.2.2.2.2.1 q48.2.2.2.2.2.2.2.2.2.2.2.2.2.2.2.2.2.2.2.2.2.2.2.2.2.2.2.2.2.2.2.2.2.2.2.2.2.2.2.2.2.2.2.2.1 q48.2.2.2.2.2.2.2.2.2.2.2.2.2.2.2.2.2.2.2.2.2.2.2.2.2.2.2.2.2.2.2.2.2.2.2.2.2.2.2.2.2.2.2.2.2.1 q48.2.2.2.2.2.2.2.2.2.2.2.2.2.2.2.2.2.2.2.2.2.2.2.2.2.2.2.2.2.2.2.2.2.2.2.2.2.2.2.2.2.2.2.2.2.2.1 q48.2.2.2.2.2.2.2.2.2.2.2.2.2.2.2.2.2.2.2.2.2.2.2.2.2.2.2.2.2.2.2.2.2.2.2.2.2.2.2.2.2.2.2.2.2.2.2.1 q48.2.2.2.2.2.2.2.2.2.2.2.2.2.2.2.2.2.2.2.2.2.2.2.2.2.2.2.2.2.2.2.2.2.2.2.2.2.2.2.2.2.2.2.2.2.2.2.2.1 q48.2.2.2.2.2.2.2.2.2.2.2.2.2.2.2.2.2.2.2.2.2.2.2.2.2.2.2.2.2.2.2.2.2.2.2.2.2.2.2.2.2.2.2.2.2.2.2.2.2.1 q48.2.2.2.2.2.2.2.2.2.2.2.2.2.2.2.2.2.2.2.2.2.2.2.2.2.2.2.2.2.2.2.2.2.2.2.2.2.2.2.2.2.2.2.2.2.2.2.2.2.2.1 v49 v52 v55)))) (
 some (x3,(x4,(x5,(x6,(x7,(x8,(x9,(x10,(x11,(x12,(x13,(x14,(x15,(x16,(x17,(x18,(x19,(x20,(x21,(x22,(x23,(x24,(x25,(x26,(x27,(x28,())))))))))))))))))))))))))))
noncomputable def frame_Render (fl:Nat) (x0:Int × Int × T3 × T2 × T6 × T4 × List T1) (x1 x2:Int):Option ((Int × Int × List T3) × (List (Int) × Int × Int × Int × Int × Int) × Int):=
 bnd (F.lt x1 1) fun v3=>
 bite v3 (
 some ((0,(0,[])),(([],(0,(0,(0,(0,0))))),1))) (
 bnd (F.gt x1 65536) fun v4=>
 bite v4 (
 some ((0,(0,[])),(([],(0,(0,(0,(0,0))))),1))) (
 bnd (F.ne x2 8) fun v5=>
 bite v5 (
 bnd (F.ne x2 16) fun v6=>
 bite v6 (
 bnd (F.ne x2 32) fun v7=>
 bite v7 (
 bnd (F.ne x2 64) fun v8=>
 bite v8 (
 some ((0,(0,[])),(([],(0,(0,(0,(0,0))))),1))) (
 obind (scene_Check fl x0) fun q9=>
 bnd (F.ne q9 0) fun v10=>
 bite v10 (
 some ((0,(0,[])),(([],(0,(0,(0,(0,0))))),q9))) (
 obind (frags_New x0) fun q11=>
 obind (prepass_New x0.1 x0.2.1) fun q12=>
 bnd (F.mul .i64 x0.1 x0.2.1) fun v13=>
 bgd (F.fillOk 4 v13) (
 bnd (F.len q11.2.2.2.2.2.2.2.2.2.1) fun v14=>
 obind (frame_Render_i79_l2 fl fl q11.2.2.2.2.2.2.2.2.2.1 v14 0 x1 x2 x0.1 x0.2.1 x0.2.2.1.1 x0.2.2.1.2.1 x0.2.2.1.2.2.1 x0.2.2.1.2.2.2 x0.2.2.2.1 x0.2.2.2.2.1 x0.2.2.2.2.2.1 x0.2.2.2.2.2.2 x1 x2 q11.1 q11.2.1 q11.2.2.1 q11.2.2.2.1 q11.2.2.2.2.1 q11.2.2.2.2.2.1 q11.2.2.2.2.2.2.1 q11.2.2.2.2.2.2.2.1 q11.2.2.2.2.2.2.2.2.1 q11.2.2.2.2.2.2.2.2.2.1 x0.1 x0.2.1 x0.2.2.1.1 x0.2.2.1.2.1 x0.2.2.1.2.2.1 x0.2.2.1.2.2.2 x0.2.2.2.1 x0.2.2.2.2.1 x0.2.2.2.2.2.1 x0.2.2.2.2.2.2 q11.1 q11.2.1 q11.2.2.1 q11.2.2.2.1 q11.2.2.2.2.1 q11.2.2.2.2.2.1 q11.2.2.2.2.2.2.1 q11.2.2.2.2.2.2.2.1 q11.2.2.2.2.2.2.2.2.1 q11.2.2.2.2.2.2.2.2.2.1 q12.1 q12.2.1 x0.1 x0.2.1 x0.2.2.1.1 x0.2.2.1.2.1 x0.2.2.1.2.2.1 x0.2.2.1.2.2.2 x0.2.2.2.1 x0.2.2.2.2.1 x0.2.2.2.2.2.1 x0.2.2.2.2.2.2 x1 x2 x0.1 x0.2.1 (F.fill v13 (0,(0,(0,0)))) x0.1 x0.2.1) fun q15=>
 obind (frame_Tiles fl q15.2.2.2.2.2.2.2.2.2.2.2.2.2.2.2.2.2.2.2.2.2.2.2.2.1 q15.2.2.2.2.2.2.2.2.2.2.2.2.2.2.2.2.2.2.2.2.2.2.2.2.2.1 q15.2.1) fun q16=>
 bnd (F.len q16) fun v17=>
 obind (frame_Render_l1 fl fl q16 v17 0 q15.2.2.2.2.2.2.2.2.2.2.2.2.2.2.2.2.2.2.2.2.2.2.2.2.2.2.2.2.2.2.2.2.2.2.1 q15.2.2.2.2.2.2.2.2.2.2.2.2.2.2.2.2.2.2.2.2.2.2.2.2.2.2.2.2.2.2.2.2.2.2.2.1 q15.2.2.2.2.2.2.2.2.2.2.2.2.2.2.2.2.2.2.2.2.2.2.2.2.2.2.2.2.2.2.2.2.2.2.2.2.1 q15.2.2.2.2.2.2.2.2.2.2.2.2.2.2.2.2.2.2.2.2.2.2.2.2.2.2.2.2.2.2.2.2.2.2.2.2.2.1 q15.2.2.2.2.2.2.2.2.2.2.2.2.2.2.2.2.2.2.2.2.2.2.2.2.2.2.2.2.2.2.2.2.2.2.2.2.2.2.1 q15.2.2.2.2.2.2.2.2.2.2.2.2.2.2.2.2.2.2.2.2.2.2.2.2.2.2.2.2.2.2.2.2.2.2.2.2.2.2.2.1 q15.2.2.2.2.2.2.2.2.2.2.2.2.2.2.2.2.2.2.2.2.2.2.2.2.2.2.2.2.2.2.2.2.2.2.2.2.2.2.2.2.1 q15.2.2.2.2.2.2.2.2.2.2.2.2.2.2.2.2.2.2.2.2.2.2.2.2.2.2.2.2.2.2.2.2.2.2.2.2.2.2.2.2.2.2.2.1 q15.2.2.2.2.2.2.2.2.2.2.2.2.2.2.2.2.2.2.2.2.2.2.2.2.2.2.2.2.2.2.2.2.2.2.2.2.2.2.2.2.2.2.2.2.1 q15.2.2.2.2.2.2.2.2.2.2.2.2.2.2.2.2.2.2.2.2.2.2.2.2.2.2.2.2.2.2.2.2.2.2.2.2.2.2.2.2.2.2.2.2.2.1 q15.2.2.2.2.2.2.2.2.2.2.2.2.2.2.2.2.2.2.2.2.2.2.2.2.2.2.2.2.2.2.2.2.2.2.2.2.2.2.2.2.2.2.2.2.2.2.1 q15.2.2.2.2.2.2.2.2.2.2.2.2.2.2.2.2.2.2.2.2.2.2.2.2.2.2.2.2.2.2.2.2.2.2.2.2.2.2.2.2.2.2.2.2.2.2.2.1 q15.2.2.2.2.2.2.2.2.2.2.2.2.2.2.2.2.2.2.2.2.2.2.2.2.2.2.2.2.2.2.2.2.2.2.2.2.2.2.2.2.2.2.2.2.2.2.2.2.1 q15.2.2.2.2.2.2.2.2.2.2.2.2.2.2.2.2.2.2.2.2.2.2.2.2.2.2.2.2.2.2.2.2.2.2.2.2.2.2.2.2.2.2.2.2.2.2.2.2.2.1 q15.2.2.2.2.2.2.2.2.2.2.2.2.2.2.2.2.2.2.2.2.2.2.2.2.2.2.2.2.2.2.2.2.2.2.2.2.2.2.2.2.2.2.2.2.2.2.2.2.2.2.1 q15.2.2.2.2.2.2.2.2.2.2.2.2.2.2.2.2.2.2.2.2.2.2.2.2.2.2.2.2.2.2.2.2.2.2.2.2.2.2.2.2.2.2.2.2.2.2.2.2.2.2.2.1 q15.2.2.2.2.2.2.2.2.2.2.2.2.2.2.2.2.2.2.2.2.2.2.2.2.2.2.2.2.2.2.2.2.2.2.2.2.2.2.2.2.2.2.2.2.2.2.2.2.2.2.2.2.1 q15.2.2.2.2.2.2.2.2.2.2.2.2.2.2.2.2.2.2.2.2.2.2.2.2.2.2.2.2.2.2.2.2.2.2.2.2.2.2.2.2.2.2.2.2.2.2.2.2.2.2.2.2.2.2.2.1 q15.2.2.2.2.2.2.2.2.2.2.2.2.2.2.2.2.2.2.2.2.2.2.2.2.2.2.2.2.2.2.2.2.2.2.2.2.2.2.2.2.2.2.2.2.2.2.2.2.2.2.2.2.2.2.2.2.1 q15.2.2.2.2.2.2.2.2.2.2.2.2.2.2.2.2.2.2.2.2.2.2.2.2.2.2.2.2.2.2.2.2.2.2.2.2.2.2.2.2.2.2.2.2.2.2.2.2.2.2.2.2.2.2.2.2.2.1 q15.2.2.2.2.2.2.2.2.2.2.2.2.2.2.2.2.2.2.2.2.2.2.2.2.2.2.2.2.2.2.2.2.2.2.2.2.2.2.2.2.2.2.2.2.2.2.2.2.2.2.2.2.2.2.2.2.2.2.1 q15.2.2.2.2.2.2.2.2.2.2.2.2.2.2.2.2.2.2.2.2.2.2.2.2.2.2.2.2.2.2.2.2.2.2.2.2.2.2.2.2.2.2.2.2.2.2.2.2.2.2.2.2.2.2.2.2.2.2.2.1 q15.2.2.2.2.2.2.2.2.2.2.2.2.2.2.2.2.2.2.2.2.2.2.2.2.2.2.2.2.2.2.2.2.2.2.2.2.2.2.2.2.2.2.2.2.2.2.2.2.2.2.2.2.2.2.2.2.2.2.2.2.1 0 0 0) fun q18=>
 some ((q18.2.2.2.2.2.2.2.2.2.2.2.2.2.2.2.2.2.2.2.2.1,(q18.2.2.2.2.2.2.2.2.2.2.2.2.2.2.2.2.2.2.2.2.2.1,q18.2.2.2.2.2.2.2.2.2.2.2.2.2.2.2.2.2.2.2.2.2.2.1)),(([],(q18.2.2.2.2.2.2.2.2.2.2.2.2.2.2.2.2.2.2.2.2.2.2.2.1,(q18.2.2.2.2.2.2.2.2.2.2.2.2.2.2.2.2.2.2.2.2.2.2.2.2.1,(q18.2.2.2.2.2.2.2.2.2.2.2.2.2.2.2.2.2.2.2.2.2.2.2.2.2.1,(0,0))))),0)))))) (
 obind (scene_Check fl x0) fun q19=>
 bnd (F.ne q19 0) fun v20=>
 bite v20 (
 some ((0,(0,[])),(([],(0,(0,(0,(0,0))))),q19))) (
 obind (frags_New x0) fun q21=>
 obind (prepass_New x0.1 x0.2.1) fun q22=>
 bnd (F.mul .i64 x0.1 x0.2.1) fun v23=>
 bgd (F.fillOk 4 v23) (
 bnd (F.len q21.2.2.2.2.2.2.2.2.2.1) fun v24=>
 obind (frame_Render_i79_l2 fl fl q21.2.2.2.2.2.2.2.2.2.1 v24 0 x1 x2 x0.1 x0.2.1 x0.2.2.1.1 x0.2.2.1.2.1 x0.2.2.1.2.2.1 x0.2.2.1.2.2.2 x0.2.2.2.1 x0.2.2.2.2.1 x0.2.2.2.2.2.1 x0.2.2.2.2.2.2 x1 x2 q21.1 q21.2.1 q21.2.2.1 q21.2.2.2.1 q21.2.2.2.2.1 q21.2.2.2.2.2.1 q21.2.2.2.2.2.2.1 q21.2.2.2.2.2.2.2.1 q21.2.2.2.2.2.2.2.2.1 q21.2.2.2.2.2.2.2.2.2.1 x0.1 x0.2.1 x0.2.2.1.1 x0.2.2.1.2.1 x0.2.2.1.2.2.1 x0.2.2.1.2.2.2 x0.2.2.2.1 x0.2.2.2.2.1 x0.2.2.2.2.2.1 x0.2.2.2.2.2.2 q21.1 q21.2.1 q21.2.2.1 q21.2.2.2.1 q21.2.2.2.2.1 q21.2.2.2.2.2.1 q21.2.2.2.2.2.2.1 q21.2.2.2.2.2.2.2.1 q21.2.2.2.2.2.2.2.2.1 q21.2.2.2.2.2.2.2.2.2.1 q22.1 q22.2.1 x0.1 x0.2.1 x0.2.2.1.1 x0.2.2.1.2.1 x0.2.2.1.2.2.1 x0.2.2.1.2.2.2 x0.2.2.2.1 x0.2.2.2.2.1 x0.2.2.2.2.2.1 x0.2.2.2.2.2.2 x1 x2 x0.1 x0.2.1 (F.fill v23 (0,(0,(0,0)))) x0.1 x0.2.1) fun q25=>
 obind (frame_Tiles fl q25.2.2.2.2.2.2.2.2.2.2.2.2.2.2.2.2.2.2.2.2.2.2.2.2.1 q25.2.2.2.2.2.2.2.2.2.2.2.2.2.2.2.2.2.2.2.2.2.2.2.2.2.1 q25.2.1) fun q26=>
 bnd (F.len q26) fun v27=>
 obind (frame_Render_l1 fl fl q26 v27 0 q25.2.2.2.2.2.2.2.2.2.2.2.2.2.2.2.2.2.2.2.2.2.2.2.2.2.2.2.2.2.2.2.2.2.2.1 q25.2.2.2.2.2.2.2.2.2.2.2.2.2.2.2.2.2.2.2.2.2.2.2.2.2.2.2.2.2.2.2.2.2.2.2.1 q25.2.2.2.2.2.2.2.2.2.2.2.2.2.2.2.2.2.2.2.2.2.2.2.2.2.2.2.2.2.2.2.2.2.2.2.2.1 q25.2.2.2.2.2.2.2.2.2.2.2.2.2.2.2.2.2.2.2.2.2.2.2.2.2.2.2.2.2.2.2.2.2.2.2.2.2.1 q25.2.2.2.2.2.2.2.2.2.2.2.2.2.2.2.2.2.2.2.2.2.2.2.2.2.2.2.2.2.2.2.2.2.2.2.2.2.2.1 q25.2.2.2.2.2.2.2.2.2.2.2.2.2.2.2.2.2.2.2.2.2.2.2.2.2.2.2.2.2.2.2.2.2.2.2.2.2.2.2.1 q25.2.2.2.2.2.2.2.2.2.2.2.2.2.2.2.2.2.2.2.2.2.2.2.2.2.2.2.2.2.2.2.2.2.2.2.2.2.2.2.2.1 q25.2.2.2.2.2.2.2.2.2.2.2.2.2.2.2.2.2.2.2.2.2.2.2.2.2.2.2.2.2.2.2.2.2.2.2.2.2.2.2.2.2.2.2.1 q25.2.2.2.2.2.2.2.2.2.2.2.2.2.2.2.2.2.2.2.2.2.2.2.2.2.2.2.2.2.2.2.2.2.2.2.2.2.2.2.2.2.2.2.2.1 q25.2.2.2.2.2.2.2.2.2.2.2.2.2.2.2.2.2.2.2.2.2.2.2.2.2.2.2.2.2.2.2.2.2.2.2.2.2.2.2.2.2.2.2.2.2.1 q25.2.2.2.2.2.2.2.2.2.2.2.2.2.2.2.2.2.2.2.2.2.2.2.2.2.2.2.2.2.2.2.2.2.2.2.2.2.2.2.2.2.2.2.2.2.2.1 q25.2.2.2.2.2.2.2.2.2.2.2.2.2.2.2.2.2.2.2.2.2.2.2.2.2.2.2.2.2.2.2.2.2.2.2.2.2.2.2.2.2.2.2.2.2.2.2.1 q25.2.2.2.2.2.2.2.2.2.2.2.2.2.2.2.2.2.2.2.2.2.2.2.2.2.2.2.2.2.2.2.2.2.2.2.2.2.2.2.2.2.2.2.2.2.2.2.2.1 q25.2.2.2.2.2.2.2.2.2.2.2.2.2.2.2.2.2.2.2.2.2.2.2.2.2.2.2.2.2.2.2.2.2.2.2.2.2.2.2.2.2.2.2.2.2.2.2.2.2.1 q25.2.2.2.2.2.2.2.2.2.2.2.2.2.2.2.2.2.2.2.2.2.2.2.2.2.2.2.2.2.2.2.2.2.2.2.2.2.2.2.2.2.2.2.2.2.2.2.2.2.2.1 q25.2.2.2.2.2.2.2.2.2.2.2.2.2.2.2.2.2.2.2.2.2.2.2.2.2.2.2.2.2.2.2.2.2.2.2.2.2.2.2.2.2.2.2.2.2.2.2.2.2.2.2.1 q25.2.2.2.2.2.2.2.2.2.2.2.2.2.2.2.2.2.2.2.2.2.2.2.2.2.2.2.2.2.2.2.2.2.2.2.2.2.2.2.2.2.2.2.2.2.2.2.2.2.2.2.2.1 q25.2.2.2.2.2.2.2.2.2.2.2.2.2.2.2.2.2.2.2.2.2.2.2.2.2.2.2.2.2.2.2.2.2.2.2.2.2.2.2.2.2.2.2.2.2.2.2.2.2.2.2.2.2.2.2.1 q25.2.2.2.2.2.2.2.2.2.2.2.2.2.2.2.2.2.2.2.2.2.2.2.2.2.2.2.2.2.2.2.2.2.2.2.2.2.2.2.2.2.2.2.2.2.2.2.2.2.2.2.2.2.2.2.2.1 q25.2.2.2.2.2.2.2.2.2.2.2.2.2.2.2.2.2.2.2.2.2.2.2.2.2.2.2.2.2.2.2.2.2.2.2.2.2.2.2.2.2.2.2.2.2.2.2.2.2.2.2.2.2.2.2.2.2.1 q25.2.2.2.2.2.2.2.2.2.2.2.2.2.2.2.2.2.2.2.2.2.2.2.2.2.2.2.2.2.2.2.2.2.2.2.2.2.2.2.2.2.2.2.2.2.2.2.2.2.2.2.2.2.2.2.2.2.2.1 q25.2.2.2.2.2.2.2.2.2.2.2.2.2.2.2.2.2.2.2.2.2.2.2.2.2.2.2.2.2.2.2.2.2.2.2.2.2.2.2.2.2.2.2.2.2.2.2.2.2.2.2.2.2.2.2.2.2.2.2.1 q25.2.2.2.2.2.2.2.2.2.2.2.2.2.2.2.2.2.2.2.2.2.2.2.2.2.2.2.2.2.2.2.2.2.2.2.2.2.2.2.2.2.2.2.2.2.2.2.2.2.2.2.2.2.2.2.2.2.2.2.2.1 0 0 0) fun q28=>
 some ((q28.2.2.2.2.2.2.2.2.2.2.2.2.2.2.2.2.2.2.2.2.1,(q28.2.2.2.2.2.2.2.2.2.2.2.2.2.2.2.2.2.2.2.2.2.1,q28.2.2.2.2.2.2.2.2.2.2.2.2.2.2.2.2.2.2.2.2.2.2.1)),(([],(q28.2.2.2.2.2.2.2.2.2.2.2.2.2.2.2.2.2.2.2.2.2.2.2.1,(q28.2.2.2.2.2.2.2.2.2.2.2.2.2.2.2.2.2.2.2.2.2.2.2.2.1,(q28.2.2.2.2.2.2.2.2.2.2.2.2.2.2.2.2.2.2.2.2.2.2.2.2.2.1,(0,0))))),0)))))) (
 obind (scene_Check fl x0) fun q29=>
 bnd (F.ne q29 0) fun v30=>
 bite v30 (
 some ((0,(0,[])),(([],(0,(0,(0,(0,0))))),q29))) (
 obind (frags_New x0) fun q31=>
 obind (prepass_New x0.1 x0.2.1) fun q32=>
 bnd (F.mul .i64 x0.1 x0.2.1) fun v33=>
 bgd (F.fillOk 4 v33) (
 bnd (F.len q31.2.2.2.2.2.2.2.2.2.1) fun v34=>
 obind (frame_Render_i79_l2 fl fl q31.2.2.2.2.2.2.2.2.2.1 v34 0 x1 x2 x0.1 x0.2.1 x0.2.2.1.1 x0.2.2.1.2.1 x0.2.2.1.2.2.1 x0.2.2.1.2.2.2 x0.2.2.2.1 x0.2.2.2.2.1 x0.2.2.2.2.2.1 x0.2.2.2.2.2.2 x1 x2 q31.1 q31.2.1 q31.2.2.1 q31.2.2.2.1 q31.2.2.2.2.1 q31.2.2.2.2.2.1 q31.2.2.2.2.2.2.1 q31.2.2.2.2.2.2.2.1 q31.2.2.2.2.2.2.2.2.1 q31.2.2.2.2.2.2.2.2.2.1 x0.1 x0.2.1 x0.2.2.1.1 x0.2.2.1.2.1 x0.2.2.1.2.2.1 x0.2.2.1.2.2.2 x0.2.2.2.1 x0.2.2.2.2.1 x0.2.2.2.2.2.1 x0.2.2.2.2.2.2 q31.1 q31.2.1 q31.2.2.1 q31.2.2.2.1 q31.2.2.2.2.1 q31.2.2.2.2.2.1 q31.2.2.2.2.2.2.1 q31.2.2.2.2.2.2.2.1 q31.2.2.2.2.2.2.2.2.1 q31.2.2.2.2.2.2.2.2.2.1 q32.1 q32.2.1 x0.1 x0.2.1 x0.2.2.1.1 x0.2.2.1.2.1 x0.2.2.1.2.2.1 x0.2.2.1.2.2.2 x0.2.2.2.1 x0.2.2.2.2.1 x0.2.2.2.2.2.1 x0.2.2.2.2.2.2 x1 x2 x0.1 x0.2.1 (F.fill v33 (0,(0,(0,0)))) x0.1 x0.2.1) fun q35=>
 obind (frame_Tiles fl q35.2.2.2.2.2.2.2.2.2.2.2.2.2.2.2.2.2.2.2.2.2.2.2.2.1 q35.2.2.2.2.2.2.2.2.2.2.2.2.2.2.2.2.2.2.2.2.2.2.2.2.2.1 q35.2.1) fun q36=>
 bnd (F.len q36) fun v37=>
 obind (frame_Render_l1 fl fl q36 v37 0 q35.2.2.2.2.2.2.2.2.2.2.2.2.2.2.2.2.2.2.2.2.2.2.2.2.2.2.2.2.2.2.2.2.2.2.1 q35.2.2.2.2.2.2.2.2.2.2.2.2.2.2.2.2.2.2.2.2.2.2.2.2.2.2.2.2.2.2.2.2.2.2.2.1 q35.2.2.2.2.2.2.2.2.2.2.2.2.2.2.2.2.2.2.2.2.2.2.2.2.2.2.2.2.2.2.2.2.2.2.2.2.1 q35.2.2.2.2.2.2.2.2.2.2.2.2.2.2.2.2.2.2.2.2.2.2.2.2.2.2.2.2.2.2.2.2.2.2.2.2.2.1 q35.2.2.2.2.2.2.2.2.2.2.2.2.2.2.2.2.2.2.2.2.2.2.2.2.2.2.2.2.2.2.2.2.2.2.2.2.2.2.1 q35.2.2.2.2.2.2.2.2.2.2.2.2.2.2.2.2.2.2.2.2.2.2.2.2.2.2.2.2.2.2.2.2.2.2.2.2.2.2.2.1 q35.2.2.2.2.2.2.2.2.2.2.2.2.2.2.2.2.2.2.2.2.2.2.2.2.2.2.2.2.2.2.2.2.2.2.2.2.2.2.2.2.1 q35.2.2.2.2.2.2.2.2.2.2.2.2.2.2.2.2.2.2.2.2.2.2.2.2.2.2.2.2.2.2.2.2.2.2.2.2.2.2.2.2.2.2.2.1 q35.2.2.2.2.2.2.2.2.2.2.2.2.2.2.2.2.2.2.2.2.2.2.2.2.2.2.2.2.2.2.2.2.2.2.2.2.2.2.2.2.2.2.2.2.1 q35.2.2.2.2.2.2.2.2.2.2.2.2.2.2.2.2.2.2.2.2.2.2.2.2.2.2.2.2.2.2.2.2.2.2.2.2.2.2.2.2.2.2.2.2.2.1 q35.2.2.2.2.2.2.2.2.2.2.2.2.2.2.2.2.2.2.2.2.2.2.2.2.2.2.2.2.2.2.2.2.2.2.2.2.2.2.2.2.2.2.2.2.2.2.1 q35.2.2.2.2.2.2.2.2.2.2.2.2.2.2.2.2.2.2.2.2.2.2.2.2.2.2.2.2.2.2.2.2.2.2.2.2.2.2.2.2.2.2.2.2.2.2.2.1 q35.2.2.2.2.2.2.2.2.2.2.2.2.2.2.2.2.2.2.2.2.2.2.2.2.2.2.2.2.2.2.2.2.2.2.2.2.2.2.2.2.2.2.2.2.2.2.2.2.1 q35.2.2.2.2.2.2.2.2.2.2.2.2.2.2.2.2.2.2.2.2.2.2.2.2.2.2.2.2.2.2.2.2.2.2.2.2.2.2.2.2.2.2.2.2.2.2.2.2.2.1 q35.2.2.2.2.2.2.2.2.2.2.2.2.2.2.2.2.2.2.2.2.2.2.2.2.2.2.2.2.2.2.2.2.2.2.2.2.2.2.2.2.2.2.2.2.2.2.2.2.2.2.1 q35.2.2.2.2.2.2.2.2.2.2.2.2.2.2.2.2.2.2.2.2.2.2.2.2.2.2.2.2.2.2.2.2.2.2.2.2.2.2.2.2.2.2.2.2.2.2.2.2.2.2.2.1 q35.2.2.2.2.2.2.2.2.2.2.2.2.2.2.2.2.2.2.2.2.2.2.2.2.2.2.2.2.2.2.2.2.2.2.2.2.2.2.2.2.2.2.2.2.2.2.2.2.2.2.2.2.1 q35.2.2.2.2.2.2.2.2.2.2.2.2.2.2.2.2.2.2.2.2.2.2.2.2.2.2.2.2.2.2.2.2.2.2.2.2.2.2.2.2.2.2.2.2.2.2.2.2.2.2.2.2.2.2.2.1 q35.2.2.2.2.2.2.2.2.2.2.2.2.2.2.2.2.2.2.2.2.2.2.2.2.2.2.2.2.2.2.2.2.2.2.2.2.2.2.2.2.2.2.2.2.2.2.2.2.2.2.2.2.2.2.2.2.1 q35.2.2.2.2.2.2.2.2.2.2.2.2.2.2.2.2.2.2.2.2.2.2.2.2.2.2.2.2.2.2.2.2.2.2.2.2.2.2.2.2.2.2.2.2.2.2.2.2.2.2.2.2.2.2.2.2.2.1 q35.2.2.2.2.2.2.2.2.2.2.2.2.2.2.2.2.2.2.2.2.2.2.2.2.2.2.2.2.2.2.2.2.2.2.2.2.2.2.2.2.2.2.2.2.2.2.2.2.2.2.2.2.2.2.2.2.2.2.1 q35.2.2.2.2.2.2.2.2.2.2.2.2.2.2.2.2.2.2.2.2.2.2.2.2.2.2.2.2.2.2.2.2.2.2.2.2.2.2.2.2.2.2.2.2.2.2.2.2.2.2.2.2.2.2.2.2.2.2.2.1 q35.2.2.2.2.2.2.2.2.2.2.2.2.2.2.2.2.2.2.2.2.2.2.2.2.2.2.2.2.2.2.2.2.2.2.2.2.2.2.2.2.2.2.2.2.2.2.2.2.2.2.2.2.2.2.2.2.2.2.2.2.1 0 0 0) fun q38=>
 some ((q38.2.2.2.2.2.2.2.2.2.2.2.2.2.2.2.2.2.2.2.2.1,(q38.2.2.2.2.2.2.2.2.2.2.2.2.2.2.2.2.2.2.2.2.2.1,q38.2.2.2.2.2.2.2.2.2.2.2.2.2.2.2.2.2.2.2.2.2.2.1)),(([],(q38.2.2.2.2.2.2.2.2.2.2.2.2.2.2.2.2.2.2.2.2.2.2.2.1,(q38.2.2.2.2.2.2.2.2.2.2.2.2.2.2.2.2.2.2.2.2.2.2.2.2.1,(q38.2.2.2.2.2.2.2.2.2.2.2.2.2.2.2.2.2.2.2.2.2.2.2.2.2.1,(0,0))))),0)))))) (
 obind (scene_Check fl x0) fun q39=>
 bnd (F.ne q39 0) fun v40=>
 bite v40 (
 some ((0,(0,[])),(([],(0,(0,(0,(0,0))))),q39))) (
 obind (frags_New x0) fun q41=>
 obind (prepass_New x0.1 x0.2.1) fun q42=>
 bnd (F.mul .i64 x0.1 x0.2.1) fun v43=>
 bgd (F.fillOk 4 v43) (
 bnd (F.len q41.2.2.2.2.2.2.2.2.2.1) fun v44=>
 obind (frame_Render_i79_l2 fl fl q41.2.2.2.2.2.2.2.2.2.1 v44 0 x1 x2 x0.1 x0.2.1 x0.2.2.1.1 x0.2.2.1.2.1 x0.2.2.1.2.2.1 x0.2.2.1.2.2.2 x0.2.2.2.1 x0.2.2.2.2.1 x0.2.2.2.2.2.1 x0.2.2.2.2.2.2 x1 x2 q41.1 q41.2.1 q41.2.2.1 q41.2.2.2.1 q41.2.2.2.2.1 q41.2.2.2.2.2.1 q41.2.2.2.2.2.2.1 q41.2.2.2.2.2.2.2.1 q41.2.2.2.2.2.2.2.2.1 q41.2.2.2.2.2.2.2.2.2.1 x0.1 x0.2.1 x0.2.2.1.1 x0.2.2.1.2.1 x0.2.2.1.2.2.1 x0.2.2.1.2.2.2 x0.2.2.2.1 x0.2.2.2.2.1 x0.2.2.2.2.2.1 x0.2.2.2.2.2.2 q41.1 q41.2.1 q41.2.2.1 q41.2.2.2.1 q41.2.2.2.2.1 q41.2.2.2.2.2.1 q41.2.2.2.2.2.2.1 q41.2.2.2.2.2.2.2.1 q41.2.2.2.2.2.2.2.2.1 q41.2.2.2.2.2.2.2.2.2.1 q42.1 q42.2.1 x0.1 x0.2.1 x0.2.2.1.1 x0.2.2.1.2.1 x0.2.2.1.2.2.1 x0.2.2.1.2.2.2 x0.2.2.2.1 x0.2.2.2.2.1 x0.2.2.2.2.2.1 x0.2.2.2.2.2.2 x1 x2 x0.1 x0.2.1 (F.fill v43 (0,(0,(0,0)))) x0.1 x0.2.1) fun q45=>
 obind (frame_Tiles fl q45.2.2.2.2.2.2.2.2.2.2.2.2.2.2.2.2.2.2.2.2.2.2.2.2.1 q45.2.2.2.2.2.2.2.2.2.2.2.2.2.2.2.2.2.2.2.2.2.2.2.2.2.1 q45.2.1) fun q46=>
 bnd (F.len q46) fun v47=>
 obind (frame_Render_l1 fl fl q46 v47 0 q45.2.2.2.2.2.2.2.2.2.2.2.2.2.2.2.2.2.2.2.2.2.2.2.2.2.2.2.2.2.2.2.2.2.2.1 q45.2.2.2.2.2.2.2.2.2.2.2.2.2.2.2.2.2.2.2.2.2.2.2.2.2.2.2.2.2.2.2.2.2.2.2.1 q45.2.2.2.2.2.2.2.2.2.2.2.2.2.2.2.2.2.2.2.2.2.2.2.2.2.2.2.2.2.2.2.2.2.2.2.2.1 q45.2.2.2.2.2.2.2.2.2.2.2.2.2.2.2.2.2.2.2.2.2.2.2.2.2.2.2.2.2.2.2.2.2.2.2.2.2.1 q45.2.2.2.2.2.2.2.2.2.2.2.2.2.2.2.2.2.2.2.2.2.2.2.2.2.2.2.2.2.2.2.2.2.2.2.2.2.2.1 q45.2.2.2.2.2.2.2.2.2.2.2.2.2.2.2.2.2.2.2.2.2.2.2.2.2.2.2.2.2.2.2.2.2.2.2.2.2.2.2.1 q45.2.2.2.2.2.2.2.2.2.2.2.2.2.2.2.2.2.2.2.2.2.2.2.2.2.2.2.2.2.2.2.2.2.2.2.2.2.2.2.2.1 q45.2.2.2.2.2.2.2.2.2.2.2.2.2.2.2.2.2.2.2.2.2.2.2.2.2.2.2.2.2.2.2.2.2.2.2.2.2.2.2.2.2.2.2.1 q45.2.2.2.2.2.2.2.2.2.2.2.2.2.2.2.2.2.2.2.2.2.2.2.2.2.2.2.2.2.2.2.2.2.2.2.2.2.2.2.2.2.2.2.2.1 q45.2.2.2.2.2.2.2.2.2.2.2.2.2.2.2.2.2.2.2.2.2.2.2.2.2.2.2.2.2.2.2.2.2.2.2.2.2.2.2.2.2.2.2.2.2.1 q45.2.2.2.2.2.2.2.2.2.2.2.2.2.2.2.2.2.2.2.2.2.2.2.2.2.2.2.2.2.2.2.2.2.2.2.2.2.2.2.2.2.2.2.2.2.2.1 q45.2.2.2.2.2.2.2.2.2.2.2.2.2.2.2.2.2.2.2.2.2.2.2.2.2.2.2.2.2.2.2.2.2.2.2.2.2.2.2.2.2.2.2.2.2.2.2.1 q45.2.2.2.2.2.2.2.2.2.2.2.2.2.2.2.2.2.2.2.2.2.2.2.2.2.2.2.2.2.2.2.2.2.2.2.2.2.2.2.2.2.2.2.2.2.2.2.2.1 q45.2.2.2.2.2.2.2.2.2.2.2.2.2.2.2.2.2.2.2.2.2.2.2.2.2.2.2.2.2.2.2.2.2.2.2.2.2.2.2.2.2.2.2.2.2.2.2.2.2.1 q45.2.2.2.2.2.2.2.2.2.2.2.2.2.2.2.2.2.2.2.2.2.2.2.2.2.2.2.2.2.2.2.2.2.2.2.2.2.2.2.2.2.2.2.2.2.2.2.2.2.2.1 q45.2.2.2.2.2.2.2.2.2.2.2.2.2.2.2.2.2.2.2.2.2.2.2.2.2.2.2.2.2.2.2.2.2.2.2.2.2.2.2.2.2.2.2.2.2.2.2.2.2.2.2.1 q45.2.2.2.2.2.2.2.2.2.2.2.2.2.2.2.2.2.2.2.2.2.2.2.2.2.2.2.2.2.2.2.2.2.2.2.2.2.2.2.2.2.2.2.2.2.2.2.2.2.2.2.2.1 q45.2.2.2.2.2.2.2.2.2.2.2.2.2.2.2.2.2.2.2.2.2.2.2.2.2.2.2.2.2.2.2.2.2.2.2.2.2.2.2.2.2.2.2.2.2.2.2.2.2.2.2.2.2.2.2.1 q45.2.2.2.2.2.2.2.2.2.2.2.2.2.2.2.2.2.2.2.2.2.2.2.2.2.2.2.2.2.2.2.2.2.2.2.2.2.2.2.2.2.2.2.2.2.2.2.2.2.2.2.2.2.2.2.2.1 q45.2.2.2.2.2.2.2.2.2.2.2.2.2.2.2.2.2.2.2.2.2.2.2.2.2.2.2.2.2.2.2.2.2.2.2.2.2.2.2.2.2.2.2.2.2.2.2.2.2.2.2.2.2.2.2.2.2.1 q45.2.2.2.2.2.2.2.2.2.2.2.2.2.2.2.2.2.2.2.2.2.2.2.2.2.2.2.2.2.2.2.2.2.2.2.2.2.2.2.2.2.2.2.2.2.2.2.2.2.2.2.2.2.2.2.2.2.2.1 q45.2.2.2.2.2.2.2.2.2.2.2.2.2.2.2.2.2.2.2.2.2.2.2.2.2.2.2.2.2.2.2.2.2.2.2.2.2.2.2.2.2.2.2.2.2.2.2.2.2.2.2.2.2.2.2.2.2.2.2.1 q45.2.2.2.2.2.2.2.2.2.2.2.2.2.2.2.2.2.2.2.2.2.2.2.2.2.2.2.2.2.2.2.2.2.2.2.2.2.2.2.2.2.2.2.2.2.2.2.2.2.2.2.2.2.2.2.2.2.2.2.2.1 0 0 0) fun q48=>
 some ((q48.2.2.2.2.2.2.2.2.2.2.2.2.2.2.2.2.2.2.2.2.1,(q48.2.2.2.2.2.2.2.2.2.2.2.2.2.2.2.2.2.2.2.2.2.1,q48.2.2.2.2.2.2.2.2.2.2.2.2.2.2.2.2.2.2.2.2.2.2.1)),(([],(q48.2.2.2.2.2.2.2.2.2.2.2.2.2.2.2.2.2.2.2.2.2.2.2.1,(q48.2.2.2.2.2.2.2.2.2.2.2.2.2.2.2.2.2.2.2.2.2.2.2.2.1,(q48.2.2.2.2.2.2.2.2.2.2.2.2.2.2.2.2.2.2.2.2.2.2.2.2.2.1,(0,0))))),0)))))))
noncomputable def glazierlaw23_shown (fl:Nat) :Option (Bool):=
 obind (frame_Render fl (1,(1,((0,(0,(0,255))),([],([],([],[])))))) 1 8) fun q0=>
 bnd (F.eq q0.2.2 0) fun v1=>
 bite v1 (
 bnd (F.eq q0.1.1 1) fun v2=>
 bite v2 (
 bnd (F.eq q0.1.2.1 1) fun v3=>
 bite v3 (
 bnd (F.len q0.1.2.2) fun v4=>
 bnd (F.eq v4 1) fun v5=>
 bite v5 (
 obind (F.get q0.1.2.2 0) fun q6=>
 bnd (F.both (F.eq q6.1 0) (F.both (F.eq q6.2.1 0) (F.both (F.eq q6.2.2.1 0) (F.eq q6.2.2.2 255)))) fun v7=>
 bite v7 (
 bnd (F.eq q0.2.1.2.1 1) fun v8=>
 bite v8 (
 bnd (F.len q0.2.1.1) fun v9=>
 bnd (F.eq v9 0) fun v10=>
 some v10) (
 some false)) (
 some false)) (
 some false)) (
 some false)) (
 some false)) (
 some false)
noncomputable def glazierlaw23_tile (x0:Int):Option (Int):=
 bnd (F.and .u8 x0 3) fun v1=>
 bgd (F.nonneg v1) (
 bnd (F.shl .i64 8 v1) fun v2=>
 some v2)
noncomputable def glazierlaw23_FrameTiles_l1 (fl:Nat):Nat -> Int -> Int -> Bool -> Int -> Int -> (List T3) -> Int -> Int -> Int -> Int -> (List (Bool)) -> Option (((Unit) ⊕ (Int × Int × Bool × Int × Int × (List T3) × Int × Int × Int × List (Bool) × Unit)))
 | 0,_,_,_,_,_,_,_,_,_,_,_=>none
 | n + 1,x0,x1,x2,x3,x4,x5,x6,x7,x8,x9,x10=>
 obind (F.get x5 x7) fun q11=>
 bnd (F.lt x9 q11.2.2.1) fun v12=>
 bite v12 (
 bnd (F.lt x9 0) fun v13=>
 bite v13 (
 some (.inl ())) (
 bnd (F.ge x9 x3) fun v14=>
 bite v14 (
 some (.inl ())) (
 bnd (F.lt x8 0) fun v15=>
 bite v15 (
 some (.inl ())) (
 bnd (F.ge x8 x4) fun v16=>
 bite v16 (
 some (.inl ())) (
 bnd (F.mul .i64 x8 64) fun v17=>
 bnd (F.add .i64 v17 x9) fun v18=>
 bgd (F.within v18 4096) (
 obind (F.get x10 v18) fun q19=>
 bite q19 (
 some (.inl ())) (
 bnd (F.mul .i64 x8 64) fun v20=>
 bnd (F.add .i64 v20 x9) fun v21=>
 bgd (F.within v21 4096) (
 bgd (F.has x10 v21) (
 bnd (F.add .i64 x6 1) fun v22=>
 bnd (F.add .i64 x9 1) fun v23=>
 glazierlaw23_FrameTiles_l1 fl n x0 x1 x2 x3 x4 x5 v22 x7 x8 v23 (F.put x10 v21 true)))))))))) (
 some (.inr (x0,(x1,(x2,(x3,(x4,(x5,(x6,(x7,(x8,(x10,()))))))))))))
noncomputable def glazierlaw23_FrameTiles_l2 (fl:Nat):Nat -> Int -> Int -> Bool -> Int -> Int -> (List T3) -> Int -> Int -> Int -> (List (Bool)) -> Option (((Unit) ⊕ (Int × Int × Bool × Int × Int × (List T3) × Int × Int × List (Bool) × Unit)))
 | 0,_,_,_,_,_,_,_,_,_,_=>none
 | n + 1,x0,x1,x2,x3,x4,x5,x6,x7,x8,x9=>
 obind (F.get x5 x7) fun q10=>
 bnd (F.lt x8 q10.2.2.2) fun v11=>
 bite v11 (
 obind (F.get x5 x7) fun q12=>
 obind (glazierlaw23_FrameTiles_l1 fl fl x0 x1 x2 x3 x4 x5 x6 x7 x8 q12.1 x9) fun q13=>
 osum q13 (fun s14=>
 some (.inl ())) (fun r15=>
 bnd (F.add .i64 r15.2.2.2.2.2.2.2.2.1 1) fun v16=>
 glazierlaw23_FrameTiles_l2 fl n r15.1 r15.2.1 r15.2.2.1 r15.2.2.2.1 r15.2.2.2.2.1 r15.2.2.2.2.2.1 r15.2.2.2.2.2.2.1 r15.2.2.2.2.2.2.2.1 v16 r15.2.2.2.2.2.2.2.2.2.1)) (
 some (.inr (x0,(x1,(x2,(x3,(x4,(x5,(x6,(x7,(x9,())))))))))))
noncomputable def glazierlaw23_FrameTiles_l3 (fl:Nat):Nat -> Int -> Int -> Bool -> Int -> Int -> (List T3) -> Int -> Int -> (List (Bool)) -> Option (((Unit) ⊕ (Int × Int × Bool × Int × Int × Int × Unit)))
 | 0,_,_,_,_,_,_,_,_,_=>none
 | n + 1,x0,x1,x2,x3,x4,x5,x6,x7,x8=>
 bnd (F.len x5) fun v9=>
 bnd (F.lt x7 v9) fun v10=>
 bite v10 (
 obind (F.get x5 x7) fun q11=>
 obind (glazierlaw23_FrameTiles_l2 fl fl x0 x1 x2 x3 x4 x5 x6 x7 q11.2.1 x8) fun q12=>
 osum q12 (fun s13=>
 some (.inl ())) (fun r14=>
 bnd (F.add .i64 r14.2.2.2.2.2.2.2.1 1) fun v15=>
 glazierlaw23_FrameTiles_l3 fl n r14.1 r14.2.1 r14.2.2.1 r14.2.2.2.1 r14.2.2.2.2.1 r14.2.2.2.2.2.1 r14.2.2.2.2.2.2.1 v15 r14.2.2.2.2.2.2.2.2.1)) (
 some (.inr (x0,(x1,(x2,(x3,(x4,(x6,()))))))))
noncomputable def frame_Keep (x0 x1:Int):Option (Int):=
 bnd (F.mul .i64 x1 x1) fun v2=>
 bgd (F.nonzero v2) (
 bnd (F.quo .i64 x0 v2) fun v3=>
 bnd (F.max v3 1) fun v4=>
 some v4)
noncomputable def glazierlaw23_FrameTiles (fl:Nat) (x0:Int × Int) (x1 x2:Int):Option (Bool):=
 obind (glazierlaw23_shown fl) fun q3=>
 bnd (F.conv .i64 x0.1) fun v4=>
 bnd (F.rem v4 64) fun v5=>
 bnd (F.add .i64 1 v5) fun v6=>
 bnd (F.conv .i64 x0.2) fun v7=>
 bnd (F.rem v7 64) fun v8=>
 bnd (F.add .i64 1 v8) fun v9=>
 obind (glazierlaw23_tile x1) fun q10=>
 obind (frame_Tiles fl v6 v9 q10) fun q11=>
 bgd (F.eq (F.len (F.fill 4096 false)) 4096) (
 obind (glazierlaw23_FrameTiles_l3 fl fl x1 x2 q3 v6 v9 q11 0 0 (F.fill 4096 false)) fun q12=>
 osum q12 (fun s13=>
 some false) (fun r14=>
 bnd (F.conv .i64 r14.2.1) fun v15=>
 bnd (F.add .i64 1 v15) fun v16=>
 obind (glazierlaw23_tile r14.1) fun q17=>
 obind (frame_Keep v16 q17) fun q18=>
 bite r14.2.2.1 (
 bnd (F.mul .i64 r14.2.2.2.1 r14.2.2.2.2.1) fun v19=>
 bnd (F.eq r14.2.2.2.2.2.1 v19) fun v20=>
 bite v20 (
 bnd (F.ge q18 1) fun v21=>
 bite v21 (
 bnd (F.eq q18 1) fun v22=>
 bite v22 (
 bnd (F.add .i64 q18 1) fun v23=>
 obind (glazierlaw23_tile r14.1) fun q24=>
 bnd (F.mul .i64 v23 q24) fun v25=>
 obind (glazierlaw23_tile r14.1) fun q26=>
 bnd (F.mul .i64 v25 q26) fun v27=>
 bnd (F.gt v27 v16) fun v28=>
 some v28) (
 obind (glazierlaw23_tile r14.1) fun q29=>
 bnd (F.mul .i64 q18 q29) fun v30=>
 obind (glazierlaw23_tile r14.1) fun q31=>
 bnd (F.mul .i64 v30 q31) fun v32=>
 bnd (F.le v32 v16) fun v33=>
 bite v33 (
 bnd (F.add .i64 q18 1) fun v34=>
 obind (glazierlaw23_tile r14.1) fun q35=>
 bnd (F.mul .i64 v34 q35) fun v36=>
 obind (glazierlaw23_tile r14.1) fun q37=>
 bnd (F.mul .i64 v36 q37) fun v38=>
 bnd (F.gt v38 v16) fun v39=>
 some v39) (
 some false))) (
 some false)) (
 some false)) (
 some false)))
end Go.Proofs.YthnagpmnoncijaaGreat.G
