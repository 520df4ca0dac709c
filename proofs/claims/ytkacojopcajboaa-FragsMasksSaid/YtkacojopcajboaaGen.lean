/- A part of the proof. -/
import Derived.Test.YtkacojopcajboaaMchA
set_option linter.unusedVariables false
set_option maxRecDepth 100000
def Go.Proofs.Ytkacojopcajboaa.M.F.lit (l:List Nat):ByteArray:=⟨(l.map UInt8.ofNat).toArray⟩
namespace Go.Proofs.Ytkacojopcajboaa.G
open Go Go.Proofs.Ytkacojopcajboaa.M
abbrev T2:=Int × Int × Int × Int
abbrev T3:=Int × Int × Int × Int × Int × Int × Int × Int
abbrev T4:=Int × Int × Int × Int × Int × Int × Int
abbrev T5:=List (Int × Int × Int × Int × Int)
abbrev T6:=Int × Int × Int × Bool × List T2
abbrev T7:=List (Int × Int × Int × T2 × Int × Int × Int × Int)
abbrev T8:=List (Int × T4 × T4 × Int × Int × Int × Int × Int × Int × Int)
abbrev T9:=List (Int × Int × List T2)
abbrev T1:=Int × Int × Int × Int × Int × Int × (List T3) × T9 × (List T5) × List T6
abbrev T10:=T4 × T4 × Int × Int × Int × Int × Int × Int × Int
abbrev T11:=T8 × Int × Int × T2 × Int × (List T6) × Int × Int × Int × Int × T1 × Int × Int × Int × Int × Int × Bool × (List T2) × Int × Int × Int × Int × Int × Int × Int × Int × Int × Int × Int × Int × Int × Int × Int × Int × Int × Int × Int × Int × Int × Int × Int × T7 × Bool × Int × Int × Int × Int × Int × Int × Int × Int × Int × Int × (List T3) × T9 × (List T5) × (List T6) × Int × Int × Unit
noncomputable def glazierlaw22_plain :Option (Int × Int × T2 × (List T3) × T9 × (List T5) × List T6):=
 some (2,(2,((0,(0,(0,0))),([(0,((-4),(0,(1,(0,(0,(0,0))))))),(4,(4,(0,(1,(0,(0,(0,0))))))),((-4),(4,(0,(1,(0,(0,(0,0)))))))],([],([[(1,(0,(0,(0,0))))]],[(0,(0,((-1),(false,[(0,(0,(1,2)))]))))]))))))
noncomputable def scene_Each (x0:Int × Int × T2 × (List T3) × T9 × (List T5) × List T6):Option T1:=
 some (x0.1,(x0.2.1,(x0.2.2.1.1,(x0.2.2.1.2.1,(x0.2.2.1.2.2.1,(x0.2.2.1.2.2.2,x0.2.2.2))))))
noncomputable def clip_own (x0:List T3):Option (List T3):=
 bnd (F.len x0) fun v1=>
 bgd (F.fillOk 64 v1) (
 bnd (F.overN (F.fill v1 (0,(0,(0,(0,(0,(0,(0,0)))))))) x0) fun v2=>
 some (F.over (F.fill v1 (0,(0,(0,(0,(0,(0,(0,0)))))))) x0))
noncomputable def vec_Dist (x0:Int) (x1:T3):Option (Int):=
 bnd (F.lt x0 0) fun v2=>
 bite v2 (
 some 0) (
 bnd (F.ge x0 5) fun v3=>
 bite v3 (
 some 0) (
 bnd (F.mul .i64 4 x1.2.2.2.1) fun v4=>
 bnd (F.add .i64 x1.2.2.1 x1.2.2.2.1) fun v5=>
 bnd (F.add .i64 v4 x1.1) fun v6=>
 bnd (F.sub .i64 v4 x1.1) fun v7=>
 bnd (F.add .i64 v4 x1.2.1) fun v8=>
 bnd (F.sub .i64 v4 x1.2.1) fun v9=>
 obind (F.get [v5,v6,v7,v8,v9] x0) fun q10=>
 some q10))
noncomputable def vec_row (x0:T3):Option T3:=
 some x0
noncomputable def fixed_size (x0:Int):Option (Int):=
 bnd (F.neg .i64 x0) fun v1=>
 bnd (F.max x0 v1) fun v2=>
 bnd (F.conv .u64 v2) fun v3=>
 some v3
noncomputable def bits_Mul64 (x0 x1:Int):Option (Int × Int):=
 bnd (F.and .u64 x0 4294967295) fun v2=>
 bnd (F.shr .u64 x0 32) fun v3=>
 bnd (F.and .u64 x1 4294967295) fun v4=>
 bnd (F.shr .u64 x1 32) fun v5=>
 bnd (F.mul .u64 v2 v4) fun v6=>
 bnd (F.mul .u64 v3 v4) fun v7=>
 bnd (F.shr .u64 v6 32) fun v8=>
 bnd (F.add .u64 v7 v8) fun v9=>
 bnd (F.and .u64 v9 4294967295) fun v10=>
 bnd (F.shr .u64 v9 32) fun v11=>
 bnd (F.mul .u64 v2 v5) fun v12=>
 bnd (F.add .u64 v10 v12) fun v13=>
 bnd (F.mul .u64 v3 v5) fun v14=>
 bnd (F.add .u64 v14 v11) fun v15=>
 bnd (F.shr .u64 v13 32) fun v16=>
 bnd (F.add .u64 v15 v16) fun v17=>
 bnd (F.mul .u64 x0 x1) fun v18=>
 some (v17,v18)
noncomputable def bits_LeadingZeros64 (x0:Int):Option (Int):=
 none
noncomputable def bits_Div64_l1 (fl:Nat):Nat -> Int -> Int -> Int -> Int -> Int -> Int -> Int -> Int -> Int -> Option (Int × Int × Int × Int × Int × Int × Int × Int × Unit)
 | 0,_,_,_,_,_,_,_,_,_=>none
 | n + 1,x0,x1,x2,x3,x4,x5,x6,x7,x8=>
 bnd (F.ge x7 4294967296) fun v9=>
 bite v9 (
 bnd (F.sub .u64 x7 1) fun v10=>
 bnd (F.add .u64 x8 x2) fun v11=>
 bnd (F.ge v11 4294967296) fun v12=>
 bite v12 (
 some (x0,(x1,(x2,(x3,(x4,(x5,(x6,(v10,()))))))))) (
 bits_Div64_l1 fl n x0 x1 x2 x3 x4 x5 x6 v10 v11)) (
 bnd (F.mul .u64 x7 x3) fun v13=>
 bnd (F.mul .u64 4294967296 x8) fun v14=>
 bnd (F.add .u64 v14 x5) fun v15=>
 bnd (F.gt v13 v15) fun v16=>
 bite v16 (
 bnd (F.sub .u64 x7 1) fun v17=>
 bnd (F.add .u64 x8 x2) fun v18=>
 bnd (F.ge v18 4294967296) fun v19=>
 bite v19 (
 some (x0,(x1,(x2,(x3,(x4,(x5,(x6,(v17,()))))))))) (
 bits_Div64_l1 fl n x0 x1 x2 x3 x4 x5 x6 v17 v18)) (
 some (x0,(x1,(x2,(x3,(x4,(x5,(x6,(x7,()))))))))))
noncomputable def bits_Div64_l2 (fl:Nat):Nat -> Int -> Int -> Int -> Int -> Int -> Int -> Int -> Int -> Int -> Option (Int × Int × Int × Int × Int × Int × Unit)
 | 0,_,_,_,_,_,_,_,_,_=>none
 | n + 1,x0,x1,x2,x3,x4,x5,x6,x7,x8=>
 bnd (F.ge x8 4294967296) fun v9=>
 bite v9 (
 bnd (F.sub .u64 x8 1) fun v10=>
 bnd (F.add .u64 x6 x2) fun v11=>
 bnd (F.ge v11 4294967296) fun v12=>
 bite v12 (
 some (x0,(x1,(x4,(x5,(x7,(v10,()))))))) (
 bits_Div64_l2 fl n x0 x1 x2 x3 x4 x5 v11 x7 v10)) (
 bnd (F.mul .u64 x8 x3) fun v13=>
 bnd (F.mul .u64 4294967296 x6) fun v14=>
 bnd (F.add .u64 v14 x4) fun v15=>
 bnd (F.gt v13 v15) fun v16=>
 bite v16 (
 bnd (F.sub .u64 x8 1) fun v17=>
 bnd (F.add .u64 x6 x2) fun v18=>
 bnd (F.ge v18 4294967296) fun v19=>
 bite v19 (
 some (x0,(x1,(x4,(x5,(x7,(v17,()))))))) (
 bits_Div64_l2 fl n x0 x1 x2 x3 x4 x5 v18 x7 v17)) (
 some (x0,(x1,(x4,(x5,(x7,(x8,()))))))))
noncomputable def bits_Div64 (fl:Nat) (x0 x1 x2:Int):Option (Int × Int):=
 bnd (F.eq x2 0) fun v3=>
 bite v3 (
 none) (
 bnd (F.le x2 x0) fun v4=>
 bite v4 (
 none) (
 bnd (F.eq x0 0) fun v5=>
 bite v5 (
 bgd (F.nonzero x2) (
 bnd (F.quo .u64 x1 x2) fun v6=>
 bgd (F.nonzero x2) (
 bnd (F.rem x1 x2) fun v7=>
 some (v6,v7)))) (
 obind (bits_LeadingZeros64 x2) fun q8=>
 bnd (F.conv .u64 q8) fun v9=>
 bgd (F.nonneg v9) (
 bnd (F.shl .u64 x2 v9) fun v10=>
 bnd (F.shr .u64 v10 32) fun v11=>
 bnd (F.and .u64 v10 4294967295) fun v12=>
 bgd (F.nonneg v9) (
 bnd (F.shl .u64 x0 v9) fun v13=>
 bnd (F.sub .u64 64 v9) fun v14=>
 bgd (F.nonneg v14) (
 bnd (F.shr .u64 x1 v14) fun v15=>
 bnd (F.or .u64 v13 v15) fun v16=>
 bgd (F.nonneg v9) (
 bnd (F.shl .u64 x1 v9) fun v17=>
 bnd (F.shr .u64 v17 32) fun v18=>
 bnd (F.and .u64 v17 4294967295) fun v19=>
 bgd (F.nonzero v11) (
 bnd (F.quo .u64 v16 v11) fun v20=>
 bnd (F.mul .u64 v20 v11) fun v21=>
 bnd (F.sub .u64 v16 v21) fun v22=>
 obind (bits_Div64_l1 fl fl v10 v9 v11 v12 v16 v18 v19 v20 v22) fun q23=>
 bnd (F.mul .u64 q23.2.2.2.2.1 4294967296) fun v24=>
 bnd (F.add .u64 v24 q23.2.2.2.2.2.1) fun v25=>
 bnd (F.mul .u64 q23.2.2.2.2.2.2.2.1 q23.1) fun v26=>
 bnd (F.sub .u64 v25 v26) fun v27=>
 bgd (F.nonzero q23.2.2.1) (
 bnd (F.quo .u64 v27 q23.2.2.1) fun v28=>
 bnd (F.mul .u64 v28 q23.2.2.1) fun v29=>
 bnd (F.sub .u64 v27 v29) fun v30=>
 obind (bits_Div64_l2 fl fl q23.1 q23.2.1 q23.2.2.1 q23.2.2.2.1 q23.2.2.2.2.2.2.1 q23.2.2.2.2.2.2.2.1 v30 v27 v28) fun q31=>
 bnd (F.mul .u64 q31.2.2.2.1 4294967296) fun v32=>
 bnd (F.add .u64 v32 q31.2.2.2.2.2.1) fun v33=>
 bnd (F.mul .u64 q31.2.2.2.2.1 4294967296) fun v34=>
 bnd (F.add .u64 v34 q31.2.2.1) fun v35=>
 bnd (F.mul .u64 q31.2.2.2.2.2.1 q31.1) fun v36=>
 bnd (F.sub .u64 v35 v36) fun v37=>
 bgd (F.nonneg q31.2.1) (
 bnd (F.shr .u64 v37 q31.2.1) fun v38=>
 some (v33,v38)))))))))))
noncomputable def fixed_checked (x0:Int) (x1:Bool):Option (Int × Int):=
 bnd (F.not x1) fun v2=>
 bite v2 (
 some (0,2)) (
 some (x0,0))
noncomputable def fixed_signed (x0:Int) (x1:Bool):Option (Int × Int):=
 bite x1 (
 bnd (F.neg .u64 x0) fun v2=>
 bnd (F.conv .i64 v2) fun v3=>
 bnd (F.le x0 9223372036854775808) fun v4=>
 obind (fixed_checked v3 v4) fun q5=>
 some q5) (
 bnd (F.conv .i64 x0) fun v6=>
 bnd (F.le x0 9223372036854775807) fun v7=>
 obind (fixed_checked v6 v7) fun q8=>
 some q8)
noncomputable def fixed_MulDiv (fl:Nat) (x0 x1 x2:Int):Option (Int × Int):=
 bnd (F.eq x2 0) fun v3=>
 bite v3 (
 some (0,3)) (
 obind (fixed_size x0) fun q4=>
 obind (fixed_size x1) fun q5=>
 obind (bits_Mul64 q4 q5) fun q6=>
 obind (fixed_size x2) fun q7=>
 bnd (F.ge q6.1 q7) fun v8=>
 bite v8 (
 some (0,2)) (
 obind (bits_Div64 fl q6.1 q6.2 q7) fun q9=>
 bnd (F.lt x0 0) fun v10=>
 bnd (F.lt x1 0) fun v11=>
 bnd (F.bne v10 v11) fun v12=>
 bnd (F.lt x2 0) fun v13=>
 bnd (F.bne v12 v13) fun v14=>
 bite v14 (
 bnd (F.gt q9.2 0) fun v15=>
 bite v15 (
 bnd (F.add .u64 q9.1 1) fun v16=>
 bnd (F.eq v16 0) fun v17=>
 bite v17 (
 some (0,2)) (
 obind (fixed_signed v16 v14) fun q18=>
 some q18)) (
 obind (fixed_signed q9.1 v14) fun q19=>
 some q19)) (
 obind (fixed_signed q9.1 v14) fun q20=>
 some q20)))
noncomputable def vec_made (x0:T3):Option T3:=
 some x0
noncomputable def vec_Between (fl:Nat) (x0 x1:T3) (x2:Int):Option (T3 × Bool):=
 obind (vec_Dist x2 x0) fun q3=>
 obind (vec_Dist x2 x1) fun q4=>
 bnd (F.lt x2 0) fun v5=>
 bite v5 (
 some ((0,(0,(0,(0,(0,(0,(0,0))))))),false)) (
 bnd (F.ge x2 5) fun v6=>
 bite v6 (
 some ((0,(0,(0,(0,(0,(0,(0,0))))))),false)) (
 bnd (F.lt q3 0) fun v7=>
 bite v7 (
 some ((0,(0,(0,(0,(0,(0,(0,0))))))),false)) (
 bnd (F.ge q4 0) fun v8=>
 bite v8 (
 some ((0,(0,(0,(0,(0,(0,(0,0))))))),false)) (
 obind (vec_row x0) fun q9=>
 obind (vec_row x1) fun q10=>
 bnd (F.sub .i64 q10.1 q9.1) fun v11=>
 bnd (F.sub .i64 q3 q4) fun v12=>
 obind (fixed_MulDiv fl v11 q3 v12) fun q13=>
 bnd (F.add .i64 q9.1 q13.1) fun v14=>
 bnd (F.sub .i64 q10.2.1 q9.2.1) fun v15=>
 bnd (F.sub .i64 q3 q4) fun v16=>
 obind (fixed_MulDiv fl v15 q3 v16) fun q17=>
 bnd (F.add .i64 q9.2.1 q17.1) fun v18=>
 bnd (F.sub .i64 q10.2.2.1 q9.2.2.1) fun v19=>
 bnd (F.sub .i64 q3 q4) fun v20=>
 obind (fixed_MulDiv fl v19 q3 v20) fun q21=>
 bnd (F.add .i64 q9.2.2.1 q21.1) fun v22=>
 bnd (F.sub .i64 q10.2.2.2.1 q9.2.2.2.1) fun v23=>
 bnd (F.sub .i64 q3 q4) fun v24=>
 obind (fixed_MulDiv fl v23 q3 v24) fun q25=>
 bnd (F.add .i64 q9.2.2.2.1 q25.1) fun v26=>
 bnd (F.sub .i64 q10.2.2.2.2.1 q9.2.2.2.2.1) fun v27=>
 bnd (F.sub .i64 q3 q4) fun v28=>
 obind (fixed_MulDiv fl v27 q3 v28) fun q29=>
 bnd (F.add .i64 q9.2.2.2.2.1 q29.1) fun v30=>
 bnd (F.sub .i64 q10.2.2.2.2.2.1 q9.2.2.2.2.2.1) fun v31=>
 bnd (F.sub .i64 q3 q4) fun v32=>
 obind (fixed_MulDiv fl v31 q3 v32) fun q33=>
 bnd (F.add .i64 q9.2.2.2.2.2.1 q33.1) fun v34=>
 bnd (F.sub .i64 q10.2.2.2.2.2.2.1 q9.2.2.2.2.2.2.1) fun v35=>
 bnd (F.sub .i64 q3 q4) fun v36=>
 obind (fixed_MulDiv fl v35 q3 v36) fun q37=>
 bnd (F.add .i64 q9.2.2.2.2.2.2.1 q37.1) fun v38=>
 bnd (F.sub .i64 q10.2.2.2.2.2.2.2 q9.2.2.2.2.2.2.2) fun v39=>
 bnd (F.sub .i64 q3 q4) fun v40=>
 obind (fixed_MulDiv fl v39 q3 v40) fun q41=>
 bnd (F.add .i64 q9.2.2.2.2.2.2.2 q41.1) fun v42=>
 obind (vec_made (v14,(v18,(v22,(v26,(v30,(v34,(v38,v42)))))))) fun q43=>
 some (q43,true)))))
noncomputable def clip_By_l1 (fl:Nat):Nat -> Int -> (List T3) -> (List T3) -> (List T3) -> Int -> Int -> Option ((List T3) × Unit)
 | 0,_,_,_,_,_,_=>none
 | n + 1,x0,x1,x2,x3,x4,x5=>
 bnd (F.lt x5 x4) fun v6=>
 bite v6 (
 obind (F.get x3 x5) fun q7=>
 bnd (F.add .i64 x5 1) fun v8=>
 bnd (F.len x1) fun v9=>
 bgd (F.nonzero v9) (
 bnd (F.rem v8 v9) fun v10=>
 obind (F.get x1 v10) fun q11=>
 obind (vec_Dist x0 q7) fun q12=>
 bnd (F.ge q12 0) fun v13=>
 bite v13 (
 bgd (F.appOk 64 x2 [q7]) (
 bnd (F.app x2 [q7]) fun v14=>
 obind (vec_Between fl q7 q11 x0) fun q15=>
 bite q15.2 (
 bgd (F.appOk 64 v14 [q15.1]) (
 bnd (F.app v14 [q15.1]) fun v16=>
 bnd (F.add .i64 x5 1) fun v17=>
 clip_By_l1 fl n x0 x1 v16 x3 x4 v17)) (
 bnd (F.add .i64 x5 1) fun v18=>
 clip_By_l1 fl n x0 x1 v14 x3 x4 v18))) (
 obind (vec_Between fl q11 q7 x0) fun q19=>
 bite q19.2 (
 bgd (F.appOk 64 x2 [q19.1]) (
 bnd (F.app x2 [q19.1]) fun v20=>
 bnd (F.add .i64 x5 1) fun v21=>
 clip_By_l1 fl n x0 x1 v20 x3 x4 v21)) (
 bnd (F.add .i64 x5 1) fun v22=>
 clip_By_l1 fl n x0 x1 x2 x3 x4 v22)))) (
 some (x2,()))
noncomputable def clip_By (fl:Nat) (x0:Int) (x1:List T3):Option (List T3):=
 bnd (F.lt x0 0) fun v2=>
 bite v2 (
 obind (clip_own x1) fun q3=>
 some q3) (
 bnd (F.ge x0 5) fun v4=>
 bite v4 (
 obind (clip_own x1) fun q5=>
 some q5) (
 bnd (F.len x1) fun v6=>
 obind (clip_By_l1 fl fl x0 x1 [] x1 v6 0) fun q7=>
 some q7.1))
noncomputable def clip_Poly (fl:Nat) (x0:List T3):Option (List T3):=
 obind (clip_own x0) fun q1=>
 obind (clip_By fl 0 q1) fun q2=>
 obind (clip_By fl 1 q2) fun q3=>
 obind (clip_By fl 2 q3) fun q4=>
 obind (clip_By fl 3 q4) fun q5=>
 obind (clip_By fl 4 q5) fun q6=>
 bnd (F.len q6) fun v7=>
 bnd (F.lt v7 3) fun v8=>
 bite v8 (
 some []) (
 some q6)
noncomputable def view_Point_1 (fl:Nat) (x0 x1:Int) (x2:T3):Option (Int):=
 obind (fixed_MulDiv fl x0 x1 x2.2.2.2.1) fun q3=>
 bnd (F.add .i64 q3.1 x1) fun v4=>
 some v4
noncomputable def view_Point (fl:Nat) (x0 x1:Int) (x2:T3):Option (T4 × Bool):=
 bnd (F.min (F.min x0 x1) x2.2.2.2.1) fun v3=>
 bnd (F.lt v3 1) fun v4=>
 bite v4 (
 some ((0,(0,(0,(0,(0,(0,0)))))),false)) (
 bnd (F.max x0 x1) fun v5=>
 bnd (F.gt v5 64) fun v6=>
 bite v6 (
 some ((0,(0,(0,(0,(0,(0,0)))))),false)) (
 bnd (F.mul .i64 8 x0) fun v7=>
 obind (view_Point_1 fl x2.1 v7 x2) fun q8=>
 bnd (F.mul .i64 8 x1) fun v9=>
 obind (view_Point_1 fl x2.2.1 v9 x2) fun q10=>
 obind (view_Point_1 fl x2.2.2.1 32768 x2) fun q11=>
 some ((q8,(q10,(q11,x2.2.2.2.2))),true)))
noncomputable def view_Points_l1 (fl:Nat):Nat -> Int -> Int -> (List T4) -> (List T3) -> Int -> Int -> Option (((Unit) ⊕ ((List T4) × Unit)))
 | 0,_,_,_,_,_,_=>none
 | n + 1,x0,x1,x2,x3,x4,x5=>
 bnd (F.lt x5 x4) fun v6=>
 bite v6 (
 obind (F.get x3 x5) fun q7=>
 obind (view_Point fl x0 x1 q7) fun q8=>
 bnd (F.not q8.2) fun v9=>
 bite v9 (
 some (.inl ())) (
 bgd (F.appOk 56 x2 [q8.1]) (
 bnd (F.app x2 [q8.1]) fun v10=>
 bnd (F.add .i64 x5 1) fun v11=>
 view_Points_l1 fl n x0 x1 v10 x3 x4 v11))) (
 some (.inr (x2,())))
noncomputable def view_Points (fl:Nat) (x0 x1:Int) (x2:List T3):Option ((List T4) × Bool):=
 bnd (F.len x2) fun v3=>
 obind (view_Points_l1 fl fl x0 x1 [] x2 v3 0) fun q4=>
 osum q4 (fun s5=>
 some ([],false)) (fun r6=>
 some (r6.1,true))
noncomputable def edge_Cross (x0 x1:T4) (x2 x3:Int):Option (Int):=
 bnd (F.sub .i64 x1.1 x0.1) fun v4=>
 bnd (F.sub .i64 x3 x0.2.1) fun v5=>
 bnd (F.mul .i64 v4 v5) fun v6=>
 bnd (F.sub .i64 x1.2.1 x0.2.1) fun v7=>
 bnd (F.sub .i64 x2 x0.1) fun v8=>
 bnd (F.mul .i64 v7 v8) fun v9=>
 bnd (F.sub .i64 v6 v9) fun v10=>
 some v10
noncomputable def edge_Area (x0:T10):Option (Int):=
 obind (edge_Cross x0.1 x0.2.1 x0.2.2.1 x0.2.2.2.1) fun q1=>
 some q1
noncomputable def edge_Turned (x0:T10):Option (T10 × Bool):=
 obind (edge_Area x0) fun q1=>
 bnd (F.eq q1 0) fun v2=>
 bite v2 (
 some (((0,(0,(0,(0,(0,(0,0)))))),((0,(0,(0,(0,(0,(0,0)))))),(0,(0,(0,(0,(0,(0,0)))))))),false)) (
 bnd (F.lt q1 0) fun v3=>
 bite v3 (
 some ((x0.1,(x0.2.2,x0.2.1)),true)) (
 some (x0,true)))
noncomputable def setup_Parts_l1 (fl:Nat):Nat -> (List T4) -> T8 -> Int -> Option (T8 × Unit)
 | 0,_,_,_=>none
 | n + 1,x0,x1,x2=>
 bnd (F.len x0) fun v3=>
 bnd (F.lt x2 v3) fun v4=>
 bite v4 (
 obind (F.get x0 0) fun q5=>
 bnd (F.sub .i64 x2 1) fun v6=>
 obind (F.get x0 v6) fun q7=>
 obind (F.get x0 x2) fun q8=>
 obind (edge_Turned (q5,(q7,q8))) fun q9=>
 bite q9.2 (
 bnd (F.sub .i64 x2 2) fun v10=>
 bgd (F.appOk 176 x1 [(v10,q9.1)]) (
 bnd (F.app x1 [(v10,q9.1)]) fun v11=>
 bnd (F.add .i64 x2 1) fun v12=>
 setup_Parts_l1 fl n x0 v11 v12)) (
 bnd (F.add .i64 x2 1) fun v13=>
 setup_Parts_l1 fl n x0 x1 v13)) (
 some (x1,()))
noncomputable def setup_Parts (fl:Nat) (x0 x1:Int) (x2:T3 × T3 × Int × Int × Int × Int × Int × Int × Int × Int):Option T8:=
 obind (clip_Poly fl [x2.1,x2.2.1,x2.2.2]) fun q3=>
 obind (view_Points fl x0 x1 q3) fun q4=>
 obind (setup_Parts_l1 fl fl q4.1 [] 2) fun q5=>
 some q5.1
noncomputable def frags_Maker__parts (fl:Nat) (x0:Int × Int × Int × Int × Int × Int × (List T3) × T9 × (List T5) × (List T6) × Int × Int) (x1:T2):Option T8:=
 obind (F.get x0.2.2.2.2.2.2.1 x1.2.1) fun q2=>
 obind (F.get x0.2.2.2.2.2.2.1 x1.2.2.1) fun q3=>
 obind (F.get x0.2.2.2.2.2.2.1 x1.2.2.2) fun q4=>
 obind (setup_Parts fl x0.1 x0.2.1 (q2,(q3,q4))) fun q5=>
 some q5
noncomputable def fixed_Floor (fl:Nat) (x0 x1:Int):Option (Int × Int):=
 obind (fixed_MulDiv fl x0 1 x1) fun q2=>
 some q2
noncomputable def view_Pixel (fl:Nat) (x0:Int):Option (Int):=
 obind (fixed_Floor fl x0 16) fun q1=>
 some q1.1
noncomputable def setup_side (fl:Nat) (x0 x1:Int) (x2 x3:Int):Option (Int × Int):=
 bnd (F.min (F.min x1 x2) x3) fun v4=>
 obind (view_Pixel fl v4) fun q5=>
 bnd (F.max q5 0) fun v6=>
 bnd (F.max (F.max x1 x2) x3) fun v7=>
 obind (view_Pixel fl v7) fun q8=>
 bnd (F.add .i64 q8 1) fun v9=>
 bnd (F.min v9 x0) fun v10=>
 some (v6,v10)
noncomputable def setup_Box (fl:Nat) (x0 x1:Int) (x2:T10):Option T2:=
 obind (setup_side fl x0 x2.1.1 x2.2.1.1 x2.2.2.1) fun q3=>
 obind (setup_side fl x1 x2.1.2.1 x2.2.1.2.1 x2.2.2.2.1) fun q4=>
 some (q3.1,(q4.1,(q3.2,q4.2)))
noncomputable def setup_Pixels (x0 x1:Int) (x2 x3:Int):Option T2:=
 some (x1,(x3,(x0,x2)))
noncomputable def cover_Bits (x0:Int):Option (Int):=
 some x0
noncomputable def bits_TrailingZeros8 (x0:Int):Option (Int):=
 obind (F.get (F.bytes (F.lit [8,0,1,0,2,0,1,0,3,0,1,0,2,0,1,0,4,0,1,0,2,0,1,0,3,0,1,0,2,0,1,0,5,0,1,0,2,0,1,0,3,0,1,0,2,0,1,0,4,0,1,0,2,0,1,0,3,0,1,0,2,0,1,0,6,0,1,0,2,0,1,0,3,0,1,0,2,0,1,0,4,0,1,0,2,0,1,0,3,0,1,0,2,0,1,0,5,0,1,0,2,0,1,0,3,0,1,0,2,0,1,0,4,0,1,0,2,0,1,0,3,0,1,0,2,0,1,0,7,0,1,0,2,0,1,0,3,0,1,0,2,0,1,0,4,0,1,0,2,0,1,0,3,0,1,0,2,0,1,0,5,0,1,0,2,0,1,0,3,0,1,0,2,0,1,0,4,0,1,0,2,0,1,0,3,0,1,0,2,0,1,0,6,0,1,0,2,0,1,0,3,0,1,0,2,0,1,0,4,0,1,0,2,0,1,0,3,0,1,0,2,0,1,0,5,0,1,0,2,0,1,0,3,0,1,0,2,0,1,0,4,0,1,0,2,0,1,0,3,0,1,0,2,0,1,0])) x0) fun q1=>
 bnd (F.conv .i64 q1) fun v2=>
 some v2
noncomputable def cover_places (x0:Int):Option (Int × Int):=
 bnd (F.eq x0 0) fun v1=>
 bite v1 (
 some (2,6)) (
 bnd (F.eq x0 1) fun v2=>
 bite v2 (
 some (6,14)) (
 bnd (F.eq x0 2) fun v3=>
 bite v3 (
 some (10,2)) (
 some (14,10))))
noncomputable def cover_Sample (x0 x1 x2:Int):Option (Int × Int):=
 obind (cover_places x2) fun q3=>
 bnd (F.mul .i64 16 x0) fun v4=>
 bnd (F.add .i64 v4 q3.1) fun v5=>
 bnd (F.mul .i64 16 x1) fun v6=>
 bnd (F.add .i64 v6 q3.2) fun v7=>
 some (v5,v7)
noncomputable def edge_First (x0 x1:T4):Option (Bool):=
 bnd (F.eq x0.2.1 x1.2.1) fun v2=>
 bite v2 (
 bnd (F.gt x1.1 x0.1) fun v3=>
 some v3) (
 bnd (F.lt x1.2.1 x0.2.1) fun v4=>
 some v4)
noncomputable def edge_In_l1 (fl:Nat):Nat -> Int -> Int -> Int -> Int -> Int -> Int -> Int -> Int -> Int -> Int -> Int -> Int -> Int -> Int -> Int -> Int -> Int -> Int -> Int -> Int -> Int -> Int -> Int -> Int -> Option (((Unit) ⊕ (Unit)))
 | 0,_,_,_,_,_,_,_,_,_,_,_,_,_,_,_,_,_,_,_,_,_,_,_,_=>none
 | n + 1,x0,x1,x2,x3,x4,x5,x6,x7,x8,x9,x10,x11,x12,x13,x14,x15,x16,x17,x18,x19,x20,x21,x22,x23=>
 bnd (F.lt x2 3) fun v24=>
 bite v24 (
 bgd (F.within x2 3) (
 obind (F.get [(x3,(x4,(x5,(x6,(x7,(x8,x9)))))),(x10,(x11,(x12,(x13,(x14,(x15,x16)))))),(x17,(x18,(x19,(x20,(x21,(x22,x23))))))] x2) fun q25=>
 bnd (F.add .i64 x2 1) fun v26=>
 bnd (F.rem v26 3) fun v27=>
 bgd (F.within v27 3) (
 obind (F.get [(x3,(x4,(x5,(x6,(x7,(x8,x9)))))),(x10,(x11,(x12,(x13,(x14,(x15,x16)))))),(x17,(x18,(x19,(x20,(x21,(x22,x23))))))] v27) fun q28=>
 obind (edge_Cross q25 q28 x0 x1) fun q29=>
 bnd (F.lt q29 0) fun v30=>
 bite v30 (
 some (.inl ())) (
 bnd (F.eq q29 0) fun v31=>
 bite v31 (
 obind (edge_First q25 q28) fun q32=>
 bnd (F.not q32) fun v33=>
 bite v33 (
 some (.inl ())) (
 bnd (F.add .i64 x2 1) fun v34=>
 edge_In_l1 fl n x0 x1 v34 x3 x4 x5 x6 x7 x8 x9 x10 x11 x12 x13 x14 x15 x16 x17 x18 x19 x20 x21 x22 x23)) (
 bnd (F.add .i64 x2 1) fun v35=>
 edge_In_l1 fl n x0 x1 v35 x3 x4 x5 x6 x7 x8 x9 x10 x11 x12 x13 x14 x15 x16 x17 x18 x19 x20 x21 x22 x23))))) (
 some (.inr ()))
noncomputable def edge_In (fl:Nat) (x0:T10) (x1 x2:Int):Option (Bool):=
 obind (edge_Area x0) fun q3=>
 bnd (F.le q3 0) fun v4=>
 bite v4 (
 some false) (
 obind (edge_In_l1 fl fl x1 x2 0 x0.1.1 x0.1.2.1 x0.1.2.2.1 x0.1.2.2.2.1 x0.1.2.2.2.2.1 x0.1.2.2.2.2.2.1 x0.1.2.2.2.2.2.2 x0.2.1.1 x0.2.1.2.1 x0.2.1.2.2.1 x0.2.1.2.2.2.1 x0.2.1.2.2.2.2.1 x0.2.1.2.2.2.2.2.1 x0.2.1.2.2.2.2.2.2 x0.2.2.1 x0.2.2.2.1 x0.2.2.2.2.1 x0.2.2.2.2.2.1 x0.2.2.2.2.2.2.1 x0.2.2.2.2.2.2.2.1 x0.2.2.2.2.2.2.2.2) fun q5=>
 osum q5 (fun s6=>
 some false) (fun r7=>
 some true))
noncomputable def cover_Mask_i60_l1 (fl:Nat):Nat -> Int -> Int -> Int -> Int -> Int -> Int -> Int -> Int -> Int -> Int -> Int -> Int -> Int -> Int -> Int -> Int -> Int -> Int -> Int -> Int -> Int -> Int -> Int -> Int -> Int -> Int -> Option (Int × Int × Int × Int × Int × Int × Int × Int × Int × Int × Int × Int × Int × Int × Int × Int × Int × Int × Int × Int × Int × Int × Int × Int × Int × Unit)
 | 0,_,_,_,_,_,_,_,_,_,_,_,_,_,_,_,_,_,_,_,_,_,_,_,_,_,_=>none
 | n + 1,x0,x1,x2,x3,x4,x5,x6,x7,x8,x9,x10,x11,x12,x13,x14,x15,x16,x17,x18,x19,x20,x21,x22,x23,x24,x25=>
 bnd (F.gt x0 0) fun v26=>
 bite v26 (
 obind (bits_TrailingZeros8 x0) fun q27=>
 obind (cover_Sample x23 x24 q27) fun q28=>
 obind (edge_In fl ((x2,(x3,(x4,(x5,(x6,(x7,x8)))))),((x9,(x10,(x11,(x12,(x13,(x14,x15)))))),(x16,(x17,(x18,(x19,(x20,(x21,x22)))))))) q28.1 q28.2) fun q29=>
 bite q29 (
 bgd (F.nonneg q27) (
 bnd (F.shl .u8 1 q27) fun v30=>
 bnd (F.or .u8 x25 v30) fun v31=>
 bnd (F.sub .u8 x0 1) fun v32=>
 bnd (F.and .u8 x0 v32) fun v33=>
 cover_Mask_i60_l1 fl n v33 x1 x2 x3 x4 x5 x6 x7 x8 x9 x10 x11 x12 x13 x14 x15 x16 x17 x18 x19 x20 x21 x22 x23 x24 v31)) (
 bnd (F.sub .u8 x0 1) fun v34=>
 bnd (F.and .u8 x0 v34) fun v35=>
 cover_Mask_i60_l1 fl n v35 x1 x2 x3 x4 x5 x6 x7 x8 x9 x10 x11 x12 x13 x14 x15 x16 x17 x18 x19 x20 x21 x22 x23 x24 x25)) (
 some (x1,(x2,(x3,(x4,(x5,(x6,(x7,(x8,(x9,(x10,(x11,(x12,(x13,(x14,(x15,(x16,(x17,(x18,(x19,(x20,(x21,(x22,(x23,(x24,(x25,()))))))))))))))))))))))))))
noncomputable def cover_Mask (fl:Nat) (x0:T10) (x1 x2:Int):Option (Int):=
 obind (cover_Bits 15) fun q3=>
 bnd (F.and .u8 q3 15) fun v4=>
 obind (cover_Mask_i60_l1 fl fl v4 q3 x0.1.1 x0.1.2.1 x0.1.2.2.1 x0.1.2.2.2.1 x0.1.2.2.2.2.1 x0.1.2.2.2.2.2.1 x0.1.2.2.2.2.2.2 x0.2.1.1 x0.2.1.2.1 x0.2.1.2.2.1 x0.2.1.2.2.2.1 x0.2.1.2.2.2.2.1 x0.2.1.2.2.2.2.2.1 x0.2.1.2.2.2.2.2.2 x0.2.2.1 x0.2.2.2.1 x0.2.2.2.2.1 x0.2.2.2.2.2.1 x0.2.2.2.2.2.2.1 x0.2.2.2.2.2.2.2.1 x0.2.2.2.2.2.2.2.2 x1 x2 0) fun q5=>
 some q5.2.2.2.2.2.2.2.2.2.2.2.2.2.2.2.2.2.2.2.2.2.2.2.2.1
noncomputable def frags_Maker__tex (x0:Int × Int × Int × Int × Int × Int × (List T3) × T9 × (List T5) × (List T6) × Int × Int) (x1:T6):Option (Int × Int × List T2):=
 bnd (F.lt x1.2.2.1 0) fun v2=>
 bite v2 (
 some (0,(0,[]))) (
 obind (F.get x0.2.2.2.2.2.2.2.1 x1.2.2.1) fun q3=>
 some q3)
noncomputable def plane_Attrs_1 (x0:T4) (x1:Int):Option (Int):=
 bgd (F.within x1 4) (
 obind (F.get [x0.2.2.2.1,x0.2.2.2.2.1,x0.2.2.2.2.2.1,x0.2.2.2.2.2.2] x1) fun q2=>
 some q2)
noncomputable def view_Centre (x0:Int):Option (Int):=
 bnd (F.mul .i64 16 x0) fun v1=>
 bnd (F.add .i64 v1 8) fun v2=>
 some v2
noncomputable def plane_At (fl:Nat) (x0:T10) (x1:Int × Int × Int) (x2 x3:Int):Option (Int):=
 obind (edge_Area x0) fun q4=>
 bnd (F.le q4 0) fun v5=>
 bite v5 (
 some 0) (
 obind (edge_Cross x0.2.1 x0.2.2 x2 x3) fun q6=>
 obind (fixed_MulDiv fl x1.1 q6 q4) fun q7=>
 bnd (F.add .i64 0 q7.1) fun v8=>
 bnd (F.mul .i64 x1.1 q6) fun v9=>
 bnd (F.mul .i64 q7.1 q4) fun v10=>
 bnd (F.sub .i64 v9 v10) fun v11=>
 bnd (F.add .i64 0 v11) fun v12=>
 obind (edge_Cross x0.2.2 x0.1 x2 x3) fun q13=>
 obind (fixed_MulDiv fl x1.2.1 q13 q4) fun q14=>
 bnd (F.add .i64 v8 q14.1) fun v15=>
 bnd (F.mul .i64 x1.2.1 q13) fun v16=>
 bnd (F.mul .i64 q14.1 q4) fun v17=>
 bnd (F.sub .i64 v16 v17) fun v18=>
 bnd (F.add .i64 v12 v18) fun v19=>
 obind (edge_Cross x0.1 x0.2.1 x2 x3) fun q20=>
 obind (fixed_MulDiv fl x1.2.2 q20 q4) fun q21=>
 bnd (F.add .i64 v15 q21.1) fun v22=>
 bnd (F.mul .i64 x1.2.2 q20) fun v23=>
 bnd (F.mul .i64 q21.1 q4) fun v24=>
 bnd (F.sub .i64 v23 v24) fun v25=>
 bnd (F.add .i64 v19 v25) fun v26=>
 bgd (F.nonzero q4) (
 bnd (F.quo .i64 v26 q4) fun v27=>
 bnd (F.add .i64 v22 v27) fun v28=>
 some v28))
noncomputable def plane_each (fl:Nat) (x0:T10) (x1 x2 x3:Int):Option (Int):=
 obind (plane_Attrs_1 x0.1 x3) fun q4=>
 obind (plane_Attrs_1 x0.2.1 x3) fun q5=>
 obind (plane_Attrs_1 x0.2.2 x3) fun q6=>
 obind (view_Centre x1) fun q7=>
 obind (view_Centre x2) fun q8=>
 obind (plane_At fl x0 (q4,(q5,q6)) q7 q8) fun q9=>
 some q9
noncomputable def plane_Attrs (fl:Nat) (x0:T10) (x1 x2:Int):Option T2:=
 obind (plane_each fl x0 x1 x2 0) fun q3=>
 obind (plane_each fl x0 x1 x2 1) fun q4=>
 obind (plane_each fl x0 x1 x2 2) fun q5=>
 obind (plane_each fl x0 x1 x2 3) fun q6=>
 some (q3,(q4,(q5,q6)))
noncomputable def code_uses (x0:Int):Option (Int):=
 bnd (F.eq x0 0) fun v1=>
 bite v1 (
 some 9) (
 bnd (F.eq x0 1) fun v2=>
 bite v2 (
 some 3) (
 bnd (F.eq x0 9) fun v3=>
 bite v3 (
 bite v3 (
 some 11) (
 bnd (F.eq x0 12) fun v4=>
 bite v4 (
 some 10) (
 bnd (F.eq x0 2) fun v5=>
 bite v5 (
 bite v5 (
 some 7) (
 some 0)) (
 bnd (F.eq x0 3) fun v6=>
 bite v6 (
 bite v6 (
 some 7) (
 some 0)) (
 bnd (F.eq x0 4) fun v7=>
 bite v7 (
 bite v7 (
 some 7) (
 some 0)) (
 bnd (F.eq x0 5) fun v8=>
 bite v8 (
 bite v8 (
 some 7) (
 some 0)) (
 bnd (F.eq x0 6) fun v9=>
 bite v9 (
 bite v9 (
 some 7) (
 some 0)) (
 bnd (F.eq x0 7) fun v10=>
 bite v10 (
 bite v10 (
 some 7) (
 some 0)) (
 bnd (F.eq x0 8) fun v11=>
 bite v11 (
 bite v11 (
 some 7) (
 some 0)) (
 bnd (F.eq x0 11) fun v12=>
 bite v12 (
 bite v12 (
 some 7) (
 some 0)) (
 bnd (F.eq x0 13) fun v13=>
 bite v13 (
 bite v13 (
 some 7) (
 some 0)) (
 bnd (F.eq x0 14) fun v14=>
 bite v14 (
 some 7) (
 some 0))))))))))))) (
 bnd (F.eq x0 10) fun v15=>
 bite v15 (
 some 11) (
 bnd (F.eq x0 12) fun v16=>
 bite v16 (
 some 10) (
 bnd (F.eq x0 2) fun v17=>
 bite v17 (
 bite v17 (
 some 7) (
 some 0)) (
 bnd (F.eq x0 3) fun v18=>
 bite v18 (
 bite v18 (
 some 7) (
 some 0)) (
 bnd (F.eq x0 4) fun v19=>
 bite v19 (
 bite v19 (
 some 7) (
 some 0)) (
 bnd (F.eq x0 5) fun v20=>
 bite v20 (
 bite v20 (
 some 7) (
 some 0)) (
 bnd (F.eq x0 6) fun v21=>
 bite v21 (
 bite v21 (
 some 7) (
 some 0)) (
 bnd (F.eq x0 7) fun v22=>
 bite v22 (
 bite v22 (
 some 7) (
 some 0)) (
 bnd (F.eq x0 8) fun v23=>
 bite v23 (
 bite v23 (
 some 7) (
 some 0)) (
 bnd (F.eq x0 11) fun v24=>
 bite v24 (
 bite v24 (
 some 7) (
 some 0)) (
 bnd (F.eq x0 13) fun v25=>
 bite v25 (
 bite v25 (
 some 7) (
 some 0)) (
 bnd (F.eq x0 14) fun v26=>
 bite v26 (
 some 7) (
 some 0)))))))))))))))
noncomputable def code_asks (x0:Int × Int × Int × Int × Int):Option (Bool):=
 bnd (F.eq x0.1 13) fun v1=>
 bite v1 (
 some true) (
 bnd (F.eq x0.1 14) fun v2=>
 some v2)
noncomputable def code_fits (x0 x1 x2:Int) (x3:Bool):Option (Bool):=
 bnd (F.ge x0 x1) fun v4=>
 bite v4 (
 bnd (F.le x0 x2) fun v5=>
 bite v5 (
 bite x3 (
 some true) (
 bnd (F.eq x0 0) fun v6=>
 some v6)) (
 some false)) (
 some false)
noncomputable def code_One (x0:Int × Int × Int × Int × Int) (x1 x2:Int):Option (Bool):=
 obind (code_uses x0.1) fun q3=>
 bnd (F.eq x0.1 0) fun v4=>
 bite v4 (
 obind (code_asks x0) fun q5=>
 bite q5 (
 bnd (F.gt q3 0) fun v6=>
 bite v6 (
 bnd (F.ge x1 0) fun v7=>
 bite v7 (
 bnd (F.lt x1 x2) fun v8=>
 bite v8 (
 bnd (F.conv .i64 x0.2.1) fun v9=>
 bnd (F.and .i64 q3 1) fun v10=>
 bnd (F.gt v10 0) fun v11=>
 obind (code_fits v9 0 4 v11) fun q12=>
 bite q12 (
 bnd (F.conv .i64 x0.2.2.1) fun v13=>
 bnd (F.and .i64 q3 2) fun v14=>
 bnd (F.gt v14 0) fun v15=>
 obind (code_fits v13 0 7 v15) fun q16=>
 bite q16 (
 bnd (F.conv .i64 x0.2.2.2.1) fun v17=>
 bnd (F.and .i64 q3 4) fun v18=>
 bnd (F.gt v18 0) fun v19=>
 obind (code_fits v17 0 7 v19) fun q20=>
 bite q20 (
 bnd (F.and .i64 q3 8) fun v21=>
 bnd (F.gt v21 0) fun v22=>
 obind (code_fits x0.2.2.2.2 (-2147483648) 2147483647 v22) fun q23=>
 some q23) (
 some false)) (
 some false)) (
 some false)) (
 some false)) (
 some false)) (
 some false)) (
 bnd (F.gt q3 0) fun v24=>
 bite v24 (
 bnd (F.ge x1 0) fun v25=>
 bite v25 (
 bnd (F.lt x1 x2) fun v26=>
 bite v26 (
 bnd (F.conv .i64 x0.2.1) fun v27=>
 bnd (F.and .i64 q3 1) fun v28=>
 bnd (F.gt v28 0) fun v29=>
 obind (code_fits v27 0 7 v29) fun q30=>
 bite q30 (
 bnd (F.conv .i64 x0.2.2.1) fun v31=>
 bnd (F.and .i64 q3 2) fun v32=>
 bnd (F.gt v32 0) fun v33=>
 obind (code_fits v31 0 7 v33) fun q34=>
 bite q34 (
 bnd (F.conv .i64 x0.2.2.2.1) fun v35=>
 bnd (F.and .i64 q3 4) fun v36=>
 bnd (F.gt v36 0) fun v37=>
 obind (code_fits v35 0 7 v37) fun q38=>
 bite q38 (
 bnd (F.and .i64 q3 8) fun v39=>
 bnd (F.gt v39 0) fun v40=>
 obind (code_fits x0.2.2.2.2 (-2147483648) 2147483647 v40) fun q41=>
 some q41) (
 some false)) (
 some false)) (
 some false)) (
 some false)) (
 some false)) (
 some false))) (
 bnd (F.eq x0.1 9) fun v42=>
 bite v42 (
 bite v42 (
 obind (code_asks x0) fun q43=>
 bite q43 (
 bnd (F.gt q3 0) fun v44=>
 bite v44 (
 bnd (F.ge x1 0) fun v45=>
 bite v45 (
 bnd (F.lt x1 x2) fun v46=>
 bite v46 (
 bnd (F.conv .i64 x0.2.1) fun v47=>
 bnd (F.and .i64 q3 1) fun v48=>
 bnd (F.gt v48 0) fun v49=>
 obind (code_fits v47 0 4 v49) fun q50=>
 bite q50 (
 bnd (F.conv .i64 x0.2.2.1) fun v51=>
 bnd (F.and .i64 q3 2) fun v52=>
 bnd (F.gt v52 0) fun v53=>
 obind (code_fits v51 0 7 v53) fun q54=>
 bite q54 (
 bnd (F.conv .i64 x0.2.2.2.1) fun v55=>
 bnd (F.and .i64 q3 4) fun v56=>
 bnd (F.gt v56 0) fun v57=>
 obind (code_fits v55 0 7 v57) fun q58=>
 bite q58 (
 bnd (F.and .i64 q3 8) fun v59=>
 bnd (F.gt v59 0) fun v60=>
 obind (code_fits x0.2.2.2.2 0 31 v60) fun q61=>
 some q61) (
 some false)) (
 some false)) (
 some false)) (
 some false)) (
 some false)) (
 some false)) (
 bnd (F.gt q3 0) fun v62=>
 bite v62 (
 bnd (F.ge x1 0) fun v63=>
 bite v63 (
 bnd (F.lt x1 x2) fun v64=>
 bite v64 (
 bnd (F.conv .i64 x0.2.1) fun v65=>
 bnd (F.and .i64 q3 1) fun v66=>
 bnd (F.gt v66 0) fun v67=>
 obind (code_fits v65 0 7 v67) fun q68=>
 bite q68 (
 bnd (F.conv .i64 x0.2.2.1) fun v69=>
 bnd (F.and .i64 q3 2) fun v70=>
 bnd (F.gt v70 0) fun v71=>
 obind (code_fits v69 0 7 v71) fun q72=>
 bite q72 (
 bnd (F.conv .i64 x0.2.2.2.1) fun v73=>
 bnd (F.and .i64 q3 4) fun v74=>
 bnd (F.gt v74 0) fun v75=>
 obind (code_fits v73 0 7 v75) fun q76=>
 bite q76 (
 bnd (F.and .i64 q3 8) fun v77=>
 bnd (F.gt v77 0) fun v78=>
 obind (code_fits x0.2.2.2.2 0 31 v78) fun q79=>
 some q79) (
 some false)) (
 some false)) (
 some false)) (
 some false)) (
 some false)) (
 some false))) (
 bnd (F.eq x0.1 12) fun v80=>
 bite v80 (
 bnd (F.sub .i64 x2 x1) fun v81=>
 bnd (F.sub .i64 v81 1) fun v82=>
 obind (code_asks x0) fun q83=>
 bite q83 (
 bnd (F.gt q3 0) fun v84=>
 bite v84 (
 bnd (F.ge x1 0) fun v85=>
 bite v85 (
 bnd (F.lt x1 x2) fun v86=>
 bite v86 (
 bnd (F.conv .i64 x0.2.1) fun v87=>
 bnd (F.and .i64 q3 1) fun v88=>
 bnd (F.gt v88 0) fun v89=>
 obind (code_fits v87 0 4 v89) fun q90=>
 bite q90 (
 bnd (F.conv .i64 x0.2.2.1) fun v91=>
 bnd (F.and .i64 q3 2) fun v92=>
 bnd (F.gt v92 0) fun v93=>
 obind (code_fits v91 0 7 v93) fun q94=>
 bite q94 (
 bnd (F.conv .i64 x0.2.2.2.1) fun v95=>
 bnd (F.and .i64 q3 4) fun v96=>
 bnd (F.gt v96 0) fun v97=>
 obind (code_fits v95 0 7 v97) fun q98=>
 bite q98 (
 bnd (F.and .i64 q3 8) fun v99=>
 bnd (F.gt v99 0) fun v100=>
 obind (code_fits x0.2.2.2.2 0 v82 v100) fun q101=>
 some q101) (
 some false)) (
 some false)) (
 some false)) (
 some false)) (
 some false)) (
 some false)) (
 bnd (F.gt q3 0) fun v102=>
 bite v102 (
 bnd (F.ge x1 0) fun v103=>
 bite v103 (
 bnd (F.lt x1 x2) fun v104=>
 bite v104 (
 bnd (F.conv .i64 x0.2.1) fun v105=>
 bnd (F.and .i64 q3 1) fun v106=>
 bnd (F.gt v106 0) fun v107=>
 obind (code_fits v105 0 7 v107) fun q108=>
 bite q108 (
 bnd (F.conv .i64 x0.2.2.1) fun v109=>
 bnd (F.and .i64 q3 2) fun v110=>
 bnd (F.gt v110 0) fun v111=>
 obind (code_fits v109 0 7 v111) fun q112=>
 bite q112 (
 bnd (F.conv .i64 x0.2.2.2.1) fun v113=>
 bnd (F.and .i64 q3 4) fun v114=>
 bnd (F.gt v114 0) fun v115=>
 obind (code_fits v113 0 7 v115) fun q116=>
 bite q116 (
 bnd (F.and .i64 q3 8) fun v117=>
 bnd (F.gt v117 0) fun v118=>
 obind (code_fits x0.2.2.2.2 0 v82 v118) fun q119=>
 some q119) (
 some false)) (
 some false)) (
 some false)) (
 some false)) (
 some false)) (
 some false))) (
 obind (code_asks x0) fun q120=>
 bite q120 (
 bnd (F.gt q3 0) fun v121=>
 bite v121 (
 bnd (F.ge x1 0) fun v122=>
 bite v122 (
 bnd (F.lt x1 x2) fun v123=>
 bite v123 (
 bnd (F.conv .i64 x0.2.1) fun v124=>
 bnd (F.and .i64 q3 1) fun v125=>
 bnd (F.gt v125 0) fun v126=>
 obind (code_fits v124 0 4 v126) fun q127=>
 bite q127 (
 bnd (F.conv .i64 x0.2.2.1) fun v128=>
 bnd (F.and .i64 q3 2) fun v129=>
 bnd (F.gt v129 0) fun v130=>
 obind (code_fits v128 0 7 v130) fun q131=>
 bite q131 (
 bnd (F.conv .i64 x0.2.2.2.1) fun v132=>
 bnd (F.and .i64 q3 4) fun v133=>
 bnd (F.gt v133 0) fun v134=>
 obind (code_fits v132 0 7 v134) fun q135=>
 bite q135 (
 bnd (F.and .i64 q3 8) fun v136=>
 bnd (F.gt v136 0) fun v137=>
 obind (code_fits x0.2.2.2.2 0 0 v137) fun q138=>
 some q138) (
 some false)) (
 some false)) (
 some false)) (
 some false)) (
 some false)) (
 some false)) (
 bnd (F.gt q3 0) fun v139=>
 bite v139 (
 bnd (F.ge x1 0) fun v140=>
 bite v140 (
 bnd (F.lt x1 x2) fun v141=>
 bite v141 (
 bnd (F.conv .i64 x0.2.1) fun v142=>
 bnd (F.and .i64 q3 1) fun v143=>
 bnd (F.gt v143 0) fun v144=>
 obind (code_fits v142 0 7 v144) fun q145=>
 bite q145 (
 bnd (F.conv .i64 x0.2.2.1) fun v146=>
 bnd (F.and .i64 q3 2) fun v147=>
 bnd (F.gt v147 0) fun v148=>
 obind (code_fits v146 0 7 v148) fun q149=>
 bite q149 (
 bnd (F.conv .i64 x0.2.2.2.1) fun v150=>
 bnd (F.and .i64 q3 4) fun v151=>
 bnd (F.gt v151 0) fun v152=>
 obind (code_fits v150 0 7 v152) fun q153=>
 bite q153 (
 bnd (F.and .i64 q3 8) fun v154=>
 bnd (F.gt v154 0) fun v155=>
 obind (code_fits x0.2.2.2.2 0 0 v155) fun q156=>
 some q156) (
 some false)) (
 some false)) (
 some false)) (
 some false)) (
 some false)) (
 some false))))) (
 bnd (F.eq x0.1 10) fun v157=>
 bite v157 (
 obind (code_asks x0) fun q158=>
 bite q158 (
 bnd (F.gt q3 0) fun v159=>
 bite v159 (
 bnd (F.ge x1 0) fun v160=>
 bite v160 (
 bnd (F.lt x1 x2) fun v161=>
 bite v161 (
 bnd (F.conv .i64 x0.2.1) fun v162=>
 bnd (F.and .i64 q3 1) fun v163=>
 bnd (F.gt v163 0) fun v164=>
 obind (code_fits v162 0 4 v164) fun q165=>
 bite q165 (
 bnd (F.conv .i64 x0.2.2.1) fun v166=>
 bnd (F.and .i64 q3 2) fun v167=>
 bnd (F.gt v167 0) fun v168=>
 obind (code_fits v166 0 7 v168) fun q169=>
 bite q169 (
 bnd (F.conv .i64 x0.2.2.2.1) fun v170=>
 bnd (F.and .i64 q3 4) fun v171=>
 bnd (F.gt v171 0) fun v172=>
 obind (code_fits v170 0 7 v172) fun q173=>
 bite q173 (
 bnd (F.and .i64 q3 8) fun v174=>
 bnd (F.gt v174 0) fun v175=>
 obind (code_fits x0.2.2.2.2 0 31 v175) fun q176=>
 some q176) (
 some false)) (
 some false)) (
 some false)) (
 some false)) (
 some false)) (
 some false)) (
 bnd (F.gt q3 0) fun v177=>
 bite v177 (
 bnd (F.ge x1 0) fun v178=>
 bite v178 (
 bnd (F.lt x1 x2) fun v179=>
 bite v179 (
 bnd (F.conv .i64 x0.2.1) fun v180=>
 bnd (F.and .i64 q3 1) fun v181=>
 bnd (F.gt v181 0) fun v182=>
 obind (code_fits v180 0 7 v182) fun q183=>
 bite q183 (
 bnd (F.conv .i64 x0.2.2.1) fun v184=>
 bnd (F.and .i64 q3 2) fun v185=>
 bnd (F.gt v185 0) fun v186=>
 obind (code_fits v184 0 7 v186) fun q187=>
 bite q187 (
 bnd (F.conv .i64 x0.2.2.2.1) fun v188=>
 bnd (F.and .i64 q3 4) fun v189=>
 bnd (F.gt v189 0) fun v190=>
 obind (code_fits v188 0 7 v190) fun q191=>
 bite q191 (
 bnd (F.and .i64 q3 8) fun v192=>
 bnd (F.gt v192 0) fun v193=>
 obind (code_fits x0.2.2.2.2 0 31 v193) fun q194=>
 some q194) (
 some false)) (
 some false)) (
 some false)) (
 some false)) (
 some false)) (
 some false))) (
 bnd (F.eq x0.1 12) fun v195=>
 bite v195 (
 bnd (F.sub .i64 x2 x1) fun v196=>
 bnd (F.sub .i64 v196 1) fun v197=>
 obind (code_asks x0) fun q198=>
 bite q198 (
 bnd (F.gt q3 0) fun v199=>
 bite v199 (
 bnd (F.ge x1 0) fun v200=>
 bite v200 (
 bnd (F.lt x1 x2) fun v201=>
 bite v201 (
 bnd (F.conv .i64 x0.2.1) fun v202=>
 bnd (F.and .i64 q3 1) fun v203=>
 bnd (F.gt v203 0) fun v204=>
 obind (code_fits v202 0 4 v204) fun q205=>
 bite q205 (
 bnd (F.conv .i64 x0.2.2.1) fun v206=>
 bnd (F.and .i64 q3 2) fun v207=>
 bnd (F.gt v207 0) fun v208=>
 obind (code_fits v206 0 7 v208) fun q209=>
 bite q209 (
 bnd (F.conv .i64 x0.2.2.2.1) fun v210=>
 bnd (F.and .i64 q3 4) fun v211=>
 bnd (F.gt v211 0) fun v212=>
 obind (code_fits v210 0 7 v212) fun q213=>
 bite q213 (
 bnd (F.and .i64 q3 8) fun v214=>
 bnd (F.gt v214 0) fun v215=>
 obind (code_fits x0.2.2.2.2 0 v197 v215) fun q216=>
 some q216) (
 some false)) (
 some false)) (
 some false)) (
 some false)) (
 some false)) (
 some false)) (
 bnd (F.gt q3 0) fun v217=>
 bite v217 (
 bnd (F.ge x1 0) fun v218=>
 bite v218 (
 bnd (F.lt x1 x2) fun v219=>
 bite v219 (
 bnd (F.conv .i64 x0.2.1) fun v220=>
 bnd (F.and .i64 q3 1) fun v221=>
 bnd (F.gt v221 0) fun v222=>
 obind (code_fits v220 0 7 v222) fun q223=>
 bite q223 (
 bnd (F.conv .i64 x0.2.2.1) fun v224=>
 bnd (F.and .i64 q3 2) fun v225=>
 bnd (F.gt v225 0) fun v226=>
 obind (code_fits v224 0 7 v226) fun q227=>
 bite q227 (
 bnd (F.conv .i64 x0.2.2.2.1) fun v228=>
 bnd (F.and .i64 q3 4) fun v229=>
 bnd (F.gt v229 0) fun v230=>
 obind (code_fits v228 0 7 v230) fun q231=>
 bite q231 (
 bnd (F.and .i64 q3 8) fun v232=>
 bnd (F.gt v232 0) fun v233=>
 obind (code_fits x0.2.2.2.2 0 v197 v233) fun q234=>
 some q234) (
 some false)) (
 some false)) (
 some false)) (
 some false)) (
 some false)) (
 some false))) (
 obind (code_asks x0) fun q235=>
 bite q235 (
 bnd (F.gt q3 0) fun v236=>
 bite v236 (
 bnd (F.ge x1 0) fun v237=>
 bite v237 (
 bnd (F.lt x1 x2) fun v238=>
 bite v238 (
 bnd (F.conv .i64 x0.2.1) fun v239=>
 bnd (F.and .i64 q3 1) fun v240=>
 bnd (F.gt v240 0) fun v241=>
 obind (code_fits v239 0 4 v241) fun q242=>
 bite q242 (
 bnd (F.conv .i64 x0.2.2.1) fun v243=>
 bnd (F.and .i64 q3 2) fun v244=>
 bnd (F.gt v244 0) fun v245=>
 obind (code_fits v243 0 7 v245) fun q246=>
 bite q246 (
 bnd (F.conv .i64 x0.2.2.2.1) fun v247=>
 bnd (F.and .i64 q3 4) fun v248=>
 bnd (F.gt v248 0) fun v249=>
 obind (code_fits v247 0 7 v249) fun q250=>
 bite q250 (
 bnd (F.and .i64 q3 8) fun v251=>
 bnd (F.gt v251 0) fun v252=>
 obind (code_fits x0.2.2.2.2 0 0 v252) fun q253=>
 some q253) (
 some false)) (
 some false)) (
 some false)) (
 some false)) (
 some false)) (
 some false)) (
 bnd (F.gt q3 0) fun v254=>
 bite v254 (
 bnd (F.ge x1 0) fun v255=>
 bite v255 (
 bnd (F.lt x1 x2) fun v256=>
 bite v256 (
 bnd (F.conv .i64 x0.2.1) fun v257=>
 bnd (F.and .i64 q3 1) fun v258=>
 bnd (F.gt v258 0) fun v259=>
 obind (code_fits v257 0 7 v259) fun q260=>
 bite q260 (
 bnd (F.conv .i64 x0.2.2.1) fun v261=>
 bnd (F.and .i64 q3 2) fun v262=>
 bnd (F.gt v262 0) fun v263=>
 obind (code_fits v261 0 7 v263) fun q264=>
 bite q264 (
 bnd (F.conv .i64 x0.2.2.2.1) fun v265=>
 bnd (F.and .i64 q3 4) fun v266=>
 bnd (F.gt v266 0) fun v267=>
 obind (code_fits v265 0 7 v267) fun q268=>
 bite q268 (
 bnd (F.and .i64 q3 8) fun v269=>
 bnd (F.gt v269 0) fun v270=>
 obind (code_fits x0.2.2.2.2 0 0 v270) fun q271=>
 some q271) (
 some false)) (
 some false)) (
 some false)) (
 some false)) (
 some false)) (
 some false))))))
noncomputable def code_Check_l1 (fl:Nat):Nat -> T5 -> T5 -> Int -> Int -> Option (((Unit) ⊕ (Unit)))
 | 0,_,_,_,_=>none
 | n + 1,x0,x1,x2,x3=>
 bnd (F.lt x3 x2) fun v4=>
 bite v4 (
 obind (F.get x1 x3) fun q5=>
 bnd (F.len x0) fun v6=>
 obind (code_One q5 x3 v6) fun q7=>
 bnd (F.not q7) fun v8=>
 bite v8 (
 some (.inl ())) (
 bnd (F.add .i64 x3 1) fun v9=>
 code_Check_l1 fl n x0 x1 x2 v9)) (
 some (.inr ()))
noncomputable def code_Check (fl:Nat) (x0:T5):Option (Int):=
 bnd (F.len x0) fun v1=>
 bnd (F.eq v1 0) fun v2=>
 bite v2 (
 some 23) (
 bnd (F.len x0) fun v3=>
 bnd (F.gt v3 32) fun v4=>
 bite v4 (
 some 23) (
 bnd (F.len x0) fun v5=>
 obind (code_Check_l1 fl fl x0 x0 v5 0) fun q6=>
 osum q6 (fun s7=>
 some 23) (fun r8=>
 some 0)))
noncomputable def slices_IndexFunc_l1 (fl:Nat):Nat -> T5 -> Unit -> Int -> Int -> Option (((Int × Unit) ⊕ (Unit)))
 | 0,_,_,_,_=>none
 | n + 1,x0,x1,x2,x3=>
 bnd (F.lt x3 x2) fun v4=>
 bite v4 (
 obind (F.get x0 x3) fun q5=>
 obind (code_asks q5) fun q6=>
 bite q6 (
 some (.inl (x3,()))) (
 bnd (F.add .i64 x3 1) fun v7=>
 slices_IndexFunc_l1 fl n x0 () x2 v7)) (
 some (.inr ()))
noncomputable def slices_IndexFunc (fl:Nat) (x0:T5) (x1:Unit):Option (Int):=
 bnd (F.len x0) fun v2=>
 obind (slices_IndexFunc_l1 fl fl x0 () v2 0) fun q3=>
 osum q3 (fun s4=>
 some s4.1) (fun r5=>
 some (-1))
noncomputable def slices_ContainsFunc (fl:Nat) (x0:T5) (x1:Unit):Option (Bool):=
 obind (slices_IndexFunc fl x0 ()) fun q2=>
 bnd (F.ge q2 0) fun v3=>
 some v3
noncomputable def code_Samples (fl:Nat) (x0:T5):Option (Bool):=
 obind (slices_ContainsFunc fl x0 ()) fun q1=>
 some q1
noncomputable def texture_sides_l1 (fl:Nat):Nat -> (List (Int)) -> Int -> Int -> Option (((Unit) ⊕ (Unit)))
 | 0,_,_,_=>none
 | n + 1,x0,x1,x2=>
 bnd (F.lt x2 x1) fun v3=>
 bite v3 (
 obind (F.get x0 x2) fun q4=>
 bnd (F.lt q4 1) fun v5=>
 bite v5 (
 some (.inl ())) (
 bnd (F.gt q4 16) fun v6=>
 bite v6 (
 some (.inl ())) (
 bnd (F.add .i64 x2 1) fun v7=>
 texture_sides_l1 fl n x0 x1 v7))) (
 some (.inr ()))
noncomputable def texture_sides (fl:Nat) (x0:List (Int)):Option (Bool):=
 bnd (F.len x0) fun v1=>
 obind (texture_sides_l1 fl fl x0 v1 0) fun q2=>
 osum q2 (fun s3=>
 some false) (fun r4=>
 some true)
noncomputable def texture_Right (fl:Nat) (x0:Int × Int × List T2):Option (Bool):=
 obind (texture_sides fl [x0.1,x0.2.1]) fun q1=>
 bite q1 (
 bnd (F.len x0.2.2) fun v2=>
 bnd (F.mul .i64 x0.1 x0.2.1) fun v3=>
 bnd (F.eq v2 v3) fun v4=>
 some v4) (
 some false)
noncomputable def vm_Run_j1 (fl:Nat) (x0:T5) (x1 x2:Int) (x3:List T2) (x4 x5:Int) (x6 x7:Int) (x8 x9:Int) (x10 x11:Int):Option (((Int × Unit) ⊕ (T5 × Int × Int × (List T2) × Int × Int × Int × Int × Int × Int × Int × Int × Unit))):=
 obind (code_Check fl x0) fun q12=>
 bnd (F.ne q12 0) fun v13=>
 bite v13 (
 some (.inl (23,()))) (
 obind (code_Samples fl x0) fun q14=>
 bite q14 (
 obind (texture_Right fl (x1,(x2,x3))) fun q15=>
 bnd (F.not q15) fun v16=>
 bite v16 (
 some (.inl (22,()))) (
 some (.inr (x0,(x1,(x2,(x3,(x4,(x5,(x6,(x7,(x8,(x9,(x10,(x11,()))))))))))))))) (
 some (.inr (x0,(x1,(x2,(x3,(x4,(x5,(x6,(x7,(x8,(x9,(x10,(x11,())))))))))))))))
noncomputable def vm_wrap (x0:Int):Option (Int):=
 bnd (F.conv .i32 x0) fun v1=>
 bnd (F.conv .i64 v1) fun v2=>
 some v2
noncomputable def code_Target (x0:Int × Int × Int × Int × Int) (x1:Int):Option (Int):=
 bnd (F.ne x0.1 12) fun v2=>
 bite v2 (
 bnd (F.add .i64 x1 1) fun v3=>
 some v3) (
 bnd (F.add .i64 x1 1) fun v4=>
 bnd (F.add .i64 v4 x0.2.2.2.2) fun v5=>
 some v5)
noncomputable def texture_cut (fl:Nat) (x0:Int):Option (Int × Int):=
 obind (fixed_Floor fl x0 16) fun q1=>
 bnd (F.mul .i64 16 q1.1) fun v2=>
 bnd (F.sub .i64 x0 v2) fun v3=>
 some (q1.1,v3)
noncomputable def texture_Texel (fl:Nat) (x0:Int × Int × List T2) (x1 x2:Int):Option T2:=
 obind (texture_Right fl x0) fun q3=>
 bnd (F.not q3) fun v4=>
 bite v4 (
 some (0,(0,(0,0)))) (
 bgd (F.nonzero x0.1) (
 bnd (F.rem x1 x0.1) fun v5=>
 bnd (F.add .i64 v5 x0.1) fun v6=>
 bgd (F.nonzero x0.1) (
 bnd (F.rem v6 x0.1) fun v7=>
 bgd (F.nonzero x0.2.1) (
 bnd (F.rem x2 x0.2.1) fun v8=>
 bnd (F.add .i64 v8 x0.2.1) fun v9=>
 bgd (F.nonzero x0.2.1) (
 bnd (F.rem v9 x0.2.1) fun v10=>
 bnd (F.mul .i64 v10 x0.1) fun v11=>
 bnd (F.add .i64 v11 v7) fun v12=>
 obind (F.get x0.2.2 v12) fun q13=>
 some q13)))))
noncomputable def texture_Nearest (fl:Nat) (x0:Int × Int × List T2) (x1 x2:Int):Option T2:=
 obind (texture_cut fl x1) fun q3=>
 obind (texture_cut fl x2) fun q4=>
 obind (texture_Texel fl x0 q3.1 q4.1) fun q5=>
 some q5
noncomputable def colour_Mix_1 (x0 x1 x2:Int):Option (Int):=
 bnd (F.sub .i64 256 x2) fun v3=>
 bnd (F.mul .i64 x0 v3) fun v4=>
 bnd (F.mul .i64 x1 x2) fun v5=>
 bnd (F.add .i64 v4 v5) fun v6=>
 bnd (F.add .i64 v6 128) fun v7=>
 bnd (F.quo .i64 v7 256) fun v8=>
 some v8
noncomputable def fixed_Sat (x0:Int):Option (Int):=
 bnd (F.max x0 0) fun v1=>
 bnd (F.min v1 255) fun v2=>
 bnd (F.conv .u8 v2) fun v3=>
 some v3
noncomputable def colour_each_1 (x0 x1 x2:Int):Option (Int):=
 bnd (F.conv .i64 x0) fun v3=>
 bnd (F.conv .i64 x1) fun v4=>
 obind (colour_Mix_1 v3 v4 x2) fun q5=>
 obind (fixed_Sat q5) fun q6=>
 some q6
noncomputable def colour_each (x0 x1:T2) (x2:Int):Option T2:=
 obind (colour_each_1 x0.1 x1.1 x2) fun q3=>
 obind (colour_each_1 x0.2.1 x1.2.1 x2) fun q4=>
 obind (colour_each_1 x0.2.2.1 x1.2.2.1 x2) fun q5=>
 obind (colour_each_1 x0.2.2.2 x1.2.2.2 x2) fun q6=>
 some (q3,(q4,(q5,q6)))
noncomputable def colour_Mix (x0 x1:T2) (x2:Int):Option T2:=
 bnd (F.max x2 0) fun v3=>
 bnd (F.min v3 256) fun v4=>
 obind (colour_each x0 x1 v4) fun q5=>
 some q5
noncomputable def texture_Smooth_1 (fl:Nat) (x0:Int) (x1:Int × Int × List T2) (x2 x3:Int):Option T2:=
 obind (texture_Texel fl x1 x2 x0) fun q4=>
 bnd (F.add .i64 x2 1) fun v5=>
 obind (texture_Texel fl x1 v5 x0) fun q6=>
 bnd (F.mul .i64 16 x3) fun v7=>
 obind (colour_Mix q4 q6 v7) fun q8=>
 some q8
noncomputable def texture_Smooth (fl:Nat) (x0:Int × Int × List T2) (x1 x2:Int):Option T2:=
 bnd (F.sub .i64 x1 8) fun v3=>
 obind (texture_cut fl v3) fun q4=>
 bnd (F.sub .i64 x2 8) fun v5=>
 obind (texture_cut fl v5) fun q6=>
 obind (texture_Smooth_1 fl q6.1 x0 q4.1 q4.2) fun q7=>
 bnd (F.add .i64 q6.1 1) fun v8=>
 obind (texture_Smooth_1 fl v8 x0 q4.1 q4.2) fun q9=>
 bnd (F.mul .i64 16 q6.2) fun v10=>
 obind (colour_Mix q7 q9 v10) fun q11=>
 some q11
noncomputable def vm_bit (x0:Bool):Option (Int):=
 bite x0 (
 some 1) (
 some 0)
noncomputable def vm_value (x0:Int × Int × Int × Int × Int) (x1 x2:Int):Option (Int):=
 bnd (F.eq x0.1 0) fun v3=>
 bite v3 (
 some x0.2.2.2.2) (
 bnd (F.eq x0.1 1) fun v4=>
 bite v4 (
 some x1) (
 bnd (F.eq x0.1 2) fun v5=>
 bite v5 (
 bnd (F.add .i64 x1 x2) fun v6=>
 some v6) (
 bnd (F.eq x0.1 3) fun v7=>
 bite v7 (
 bnd (F.sub .i64 x1 x2) fun v8=>
 some v8) (
 bnd (F.eq x0.1 4) fun v9=>
 bite v9 (
 bnd (F.mul .i64 x1 x2) fun v10=>
 bnd (F.shr .i64 v10 8) fun v11=>
 some v11) (
 bnd (F.eq x0.1 5) fun v12=>
 bite v12 (
 bnd (F.min x1 x2) fun v13=>
 some v13) (
 bnd (F.eq x0.1 6) fun v14=>
 bite v14 (
 bnd (F.max x1 x2) fun v15=>
 some v15) (
 bnd (F.eq x0.1 7) fun v16=>
 bite v16 (
 bnd (F.and .i64 x1 x2) fun v17=>
 some v17) (
 bnd (F.eq x0.1 8) fun v18=>
 bite v18 (
 bnd (F.or .i64 x1 x2) fun v19=>
 some v19) (
 bnd (F.eq x0.1 9) fun v20=>
 bite v20 (
 bgd (F.nonneg x0.2.2.2.2) (
 bnd (F.shl .i64 x1 x0.2.2.2.2) fun v21=>
 some v21)) (
 bnd (F.eq x0.1 10) fun v22=>
 bite v22 (
 bgd (F.nonneg x0.2.2.2.2) (
 bnd (F.shr .i64 x1 x0.2.2.2.2) fun v23=>
 some v23)) (
 bnd (F.lt x1 x2) fun v24=>
 obind (vm_bit v24) fun q25=>
 some q25)))))))))))
noncomputable def vm_Run_i69_l1 (fl:Nat):Nat -> Int -> (List (Int)) -> Int -> Int -> T5 -> Int -> Int -> Int -> Int -> Int -> (List T2) -> Int -> Int -> Int -> Int -> Int -> Int -> Int -> Int -> Option (T5 × Int × Int × Int × Int × Int × (List T2) × Int × Int × Int × Int × Int × Int × Int × Int × Unit)
 | 0,_,_,_,_,_,_,_,_,_,_,_,_,_,_,_,_,_,_,_=>none
 | n + 1,x0,x1,x2,x3,x4,x5,x6,x7,x8,x9,x10,x11,x12,x13,x14,x15,x16,x17,x18=>
 bnd (F.lt x3 x2) fun v19=>
 bite v19 (
 obind (F.get x1 x3) fun q20=>
 bnd (F.conv .i64 x0) fun v21=>
 bnd (F.add .i64 v21 x3) fun v22=>
 obind (vm_wrap q20) fun q23=>
 bgd (F.within v22 8) (
 bnd (F.add .i64 x3 1) fun v24=>
 vm_Run_i69_l1 fl n x0 x1 x2 v24 x4 x5 x6 x7 x8 x9 x10 (F.pick v22 0 q23 x11) (F.pick v22 1 q23 x12) (F.pick v22 2 q23 x13) (F.pick v22 3 q23 x14) (F.pick v22 4 q23 x15) (F.pick v22 5 q23 x16) (F.pick v22 6 q23 x17) (F.pick v22 7 q23 x18))) (
 some (x4,(x5,(x6,(x7,(x8,(x9,(x10,(x11,(x12,(x13,(x14,(x15,(x16,(x17,(x18,()))))))))))))))))
noncomputable def vm_Run_i69_l2 (fl:Nat):Nat -> Int -> (List (Int)) -> Int -> Int -> T5 -> Int -> Int -> Int -> Int -> Int -> (List T2) -> Int -> Int -> Int -> Int -> Int -> Int -> Int -> Int -> Option (T5 × Int × Int × Int × Int × Int × (List T2) × Int × Int × Int × Int × Int × Int × Int × Int × Unit)
 | 0,_,_,_,_,_,_,_,_,_,_,_,_,_,_,_,_,_,_,_=>none
 | n + 1,x0,x1,x2,x3,x4,x5,x6,x7,x8,x9,x10,x11,x12,x13,x14,x15,x16,x17,x18=>
 bnd (F.lt x3 x2) fun v19=>
 bite v19 (
 obind (F.get x1 x3) fun q20=>
 bnd (F.conv .i64 x0) fun v21=>
 bnd (F.add .i64 v21 x3) fun v22=>
 obind (vm_wrap q20) fun q23=>
 bgd (F.within v22 8) (
 bnd (F.add .i64 x3 1) fun v24=>
 vm_Run_i69_l2 fl n x0 x1 x2 v24 x4 x5 x6 x7 x8 x9 x10 (F.pick v22 0 q23 x11) (F.pick v22 1 q23 x12) (F.pick v22 2 q23 x13) (F.pick v22 3 q23 x14) (F.pick v22 4 q23 x15) (F.pick v22 5 q23 x16) (F.pick v22 6 q23 x17) (F.pick v22 7 q23 x18))) (
 some (x4,(x5,(x6,(x7,(x8,(x9,(x10,(x11,(x12,(x13,(x14,(x15,(x16,(x17,(x18,()))))))))))))))))
noncomputable def vm_Run_i69_l3 (fl:Nat):Nat -> Int -> (List (Int)) -> Int -> Int -> T5 -> Int -> Int -> Int -> Int -> Int -> (List T2) -> Int -> Int -> Int -> Int -> Int -> Int -> Int -> Int -> Option (T5 × Int × Int × Int × Int × Int × (List T2) × Int × Int × Int × Int × Int × Int × Int × Int × Unit)
 | 0,_,_,_,_,_,_,_,_,_,_,_,_,_,_,_,_,_,_,_=>none
 | n + 1,x0,x1,x2,x3,x4,x5,x6,x7,x8,x9,x10,x11,x12,x13,x14,x15,x16,x17,x18=>
 bnd (F.lt x3 x2) fun v19=>
 bite v19 (
 obind (F.get x1 x3) fun q20=>
 bnd (F.conv .i64 x0) fun v21=>
 bnd (F.add .i64 v21 x3) fun v22=>
 obind (vm_wrap q20) fun q23=>
 bgd (F.within v22 8) (
 bnd (F.add .i64 x3 1) fun v24=>
 vm_Run_i69_l3 fl n x0 x1 x2 v24 x4 x5 x6 x7 x8 x9 x10 (F.pick v22 0 q23 x11) (F.pick v22 1 q23 x12) (F.pick v22 2 q23 x13) (F.pick v22 3 q23 x14) (F.pick v22 4 q23 x15) (F.pick v22 5 q23 x16) (F.pick v22 6 q23 x17) (F.pick v22 7 q23 x18))) (
 some (x4,(x5,(x6,(x7,(x8,(x9,(x10,(x11,(x12,(x13,(x14,(x15,(x16,(x17,(x18,()))))))))))))))))
noncomputable def vm_Run_l2 (fl:Nat):Nat -> T5 -> Int -> Int -> Int -> Int -> (List T2) -> Int -> Int -> Int -> Int -> Int -> Int -> Int -> Int -> Option (Int × Int × Int × Int × Int × Int × Int × Int × Int × Unit)
 | 0,_,_,_,_,_,_,_,_,_,_,_,_,_,_=>none
 | n + 1,x0,x1,x2,x3,x4,x5,x6,x7,x8,x9,x10,x11,x12,x13=>
 bnd (F.len x0) fun v14=>
 bnd (F.lt x2 v14) fun v15=>
 bite v15 (
 obind (F.get x0 x2) fun q16=>
 bgd (F.within q16.2.2.1 8) (
 obind (F.get [x6,x7,x8,x9,x10,x11,x12,x13] q16.2.2.1) fun q17=>
 bgd (F.within q16.2.2.2.1 8) (
 obind (F.get [x6,x7,x8,x9,x10,x11,x12,x13] q16.2.2.2.1) fun q18=>
 bnd (F.add .i64 x2 1) fun v19=>
 bnd (F.eq q16.1 12) fun v20=>
 bite v20 (
 bnd (F.ne q17 0) fun v21=>
 bite v21 (
 bnd (F.sub .i64 v19 1) fun v22=>
 obind (code_Target q16 v22) fun q23=>
 bnd (F.add .i64 x1 1) fun v24=>
 vm_Run_l2 fl n x0 v24 q23 x3 x4 x5 x6 x7 x8 x9 x10 x11 x12 x13) (
 bnd (F.add .i64 x1 1) fun v25=>
 vm_Run_l2 fl n x0 v25 v19 x3 x4 x5 x6 x7 x8 x9 x10 x11 x12 x13)) (
 bnd (F.eq q16.1 13) fun v26=>
 bite v26 (
 obind (texture_Nearest fl (x3,(x4,x5)) q17 q18) fun q27=>
 bnd (F.conv .i64 q27.1) fun v28=>
 bnd (F.conv .i64 q27.2.1) fun v29=>
 bnd (F.conv .i64 q27.2.2.1) fun v30=>
 bnd (F.conv .i64 q27.2.2.2) fun v31=>
 bnd (F.len [v28,v29,v30,v31]) fun v32=>
 obind (vm_Run_i69_l1 fl fl q16.2.1 [v28,v29,v30,v31] v32 0 x0 x1 v19 q16.2.1 x3 x4 x5 x6 x7 x8 x9 x10 x11 x12 x13) fun q33=>
 bnd (F.add .i64 q33.2.1 1) fun v34=>
 vm_Run_l2 fl n q33.1 v34 q33.2.2.1 q33.2.2.2.2.1 q33.2.2.2.2.2.1 q33.2.2.2.2.2.2.1 q33.2.2.2.2.2.2.2.1 q33.2.2.2.2.2.2.2.2.1 q33.2.2.2.2.2.2.2.2.2.1 q33.2.2.2.2.2.2.2.2.2.2.1 q33.2.2.2.2.2.2.2.2.2.2.2.1 q33.2.2.2.2.2.2.2.2.2.2.2.2.1 q33.2.2.2.2.2.2.2.2.2.2.2.2.2.1 q33.2.2.2.2.2.2.2.2.2.2.2.2.2.2.1) (
 bnd (F.eq q16.1 14) fun v35=>
 bite v35 (
 obind (texture_Smooth fl (x3,(x4,x5)) q17 q18) fun q36=>
 bnd (F.conv .i64 q36.1) fun v37=>
 bnd (F.conv .i64 q36.2.1) fun v38=>
 bnd (F.conv .i64 q36.2.2.1) fun v39=>
 bnd (F.conv .i64 q36.2.2.2) fun v40=>
 bnd (F.len [v37,v38,v39,v40]) fun v41=>
 obind (vm_Run_i69_l2 fl fl q16.2.1 [v37,v38,v39,v40] v41 0 x0 x1 v19 q16.2.1 x3 x4 x5 x6 x7 x8 x9 x10 x11 x12 x13) fun q42=>
 bnd (F.add .i64 q42.2.1 1) fun v43=>
 vm_Run_l2 fl n q42.1 v43 q42.2.2.1 q42.2.2.2.2.1 q42.2.2.2.2.2.1 q42.2.2.2.2.2.2.1 q42.2.2.2.2.2.2.2.1 q42.2.2.2.2.2.2.2.2.1 q42.2.2.2.2.2.2.2.2.2.1 q42.2.2.2.2.2.2.2.2.2.2.1 q42.2.2.2.2.2.2.2.2.2.2.2.1 q42.2.2.2.2.2.2.2.2.2.2.2.2.1 q42.2.2.2.2.2.2.2.2.2.2.2.2.2.1 q42.2.2.2.2.2.2.2.2.2.2.2.2.2.2.1) (
 obind (vm_value q16 q17 q18) fun q44=>
 bnd (F.len [q44]) fun v45=>
 obind (vm_Run_i69_l3 fl fl q16.2.1 [q44] v45 0 x0 x1 v19 q16.2.1 x3 x4 x5 x6 x7 x8 x9 x10 x11 x12 x13) fun q46=>
 bnd (F.add .i64 q46.2.1 1) fun v47=>
 vm_Run_l2 fl n q46.1 v47 q46.2.2.1 q46.2.2.2.2.1 q46.2.2.2.2.2.1 q46.2.2.2.2.2.2.1 q46.2.2.2.2.2.2.2.1 q46.2.2.2.2.2.2.2.2.1 q46.2.2.2.2.2.2.2.2.2.1 q46.2.2.2.2.2.2.2.2.2.2.1 q46.2.2.2.2.2.2.2.2.2.2.2.1 q46.2.2.2.2.2.2.2.2.2.2.2.2.1 q46.2.2.2.2.2.2.2.2.2.2.2.2.2.1 q46.2.2.2.2.2.2.2.2.2.2.2.2.2.2.1)))))) (
 some (x1,(x6,(x7,(x8,(x9,(x10,(x11,(x12,(x13,()))))))))))
noncomputable def vm_Run (fl:Nat) (x0:T5) (x1:Int × Int × List T2) (x2:T3):Option (T3 × Int × Int):=
 obind (vm_Run_j1 fl x0 x1.1 x1.2.1 x1.2.2 x2.1 x2.2.1 x2.2.2.1 x2.2.2.2.1 x2.2.2.2.2.1 x2.2.2.2.2.2.1 x2.2.2.2.2.2.2.1 x2.2.2.2.2.2.2.2) fun q3=>
 osum q3 (fun s4=>
 some ((0,(0,(0,(0,(0,(0,(0,0))))))),(0,s4.1))) (fun r5=>
 obind (vm_wrap r5.2.2.2.2.1) fun q6=>
 obind (vm_wrap r5.2.2.2.2.2.1) fun q7=>
 obind (vm_wrap r5.2.2.2.2.2.2.1) fun q8=>
 obind (vm_wrap r5.2.2.2.2.2.2.2.1) fun q9=>
 obind (vm_wrap r5.2.2.2.2.2.2.2.2.1) fun q10=>
 obind (vm_wrap r5.2.2.2.2.2.2.2.2.2.1) fun q11=>
 obind (vm_wrap r5.2.2.2.2.2.2.2.2.2.2.1) fun q12=>
 obind (vm_wrap r5.2.2.2.2.2.2.2.2.2.2.2.1) fun q13=>
 obind (vm_Run_l2 fl fl r5.1 0 0 r5.2.1 r5.2.2.1 r5.2.2.2.1 q6 q7 q8 q9 q10 q11 q12 q13) fun q14=>
 some ((q14.2.1,(q14.2.2.1,(q14.2.2.2.1,(q14.2.2.2.2.1,(q14.2.2.2.2.2.1,(q14.2.2.2.2.2.2.1,(q14.2.2.2.2.2.2.2.1,q14.2.2.2.2.2.2.2.2.1))))))),(q14.1,0)))
noncomputable def fixed_Div255 (x0:Int):Option (Int):=
 bnd (F.max x0 0) fun v1=>
 bnd (F.min v1 65025) fun v2=>
 bnd (F.add .i64 v2 127) fun v3=>
 bnd (F.quo .i64 v3 255) fun v4=>
 some v4
noncomputable def colour_Pre_1 (x0 x1:Int) (x2:T2):Option (Int):=
 bnd (F.conv .i64 x2.2.2.2) fun v3=>
 bnd (F.mul .i64 x0 v3) fun v4=>
 obind (fixed_Div255 v4) fun q5=>
 some q5
noncomputable def colour_each_1__2 (x0 x1:Int) (x2:T2):Option (Int):=
 bnd (F.conv .i64 x0) fun v3=>
 bnd (F.conv .i64 x1) fun v4=>
 obind (colour_Pre_1 v3 v4 x2) fun q5=>
 obind (fixed_Sat q5) fun q6=>
 some q6
noncomputable def colour_each__2 (x0 x1 x2:T2):Option T2:=
 obind (colour_each_1__2 x0.1 x1.1 x2) fun q3=>
 obind (colour_each_1__2 x0.2.1 x1.2.1 x2) fun q4=>
 obind (colour_each_1__2 x0.2.2.1 x1.2.2.1 x2) fun q5=>
 obind (colour_each_1__2 x0.2.2.2 x1.2.2.2 x2) fun q6=>
 some (q3,(q4,(q5,q6)))
noncomputable def colour_Pre (x0:T2):Option T2:=
 obind (colour_each__2 x0 x0 x0) fun q1=>
 some (q1.1,(q1.2.1,(q1.2.2.1,x0.2.2.2)))
noncomputable def vm_Shade (fl:Nat) (x0:T5) (x1:Int × Int × List T2) (x2:T2) (x3 x4:Int):Option (T2 × Int × Int):=
 obind (vm_Run fl x0 x1 (x2.1,(x2.2.1,(x2.2.2.1,(x2.2.2.2,(x3,(x4,(0,0)))))))) fun q5=>
 bnd (F.ne q5.2.2 0) fun v6=>
 bite v6 (
 some ((0,(0,(0,0))),(0,q5.2.2))) (
 obind (fixed_Sat q5.1.1) fun q7=>
 obind (fixed_Sat q5.1.2.1) fun q8=>
 obind (fixed_Sat q5.1.2.2.1) fun q9=>
 obind (fixed_Sat q5.1.2.2.2.1) fun q10=>
 obind (colour_Pre (q7,(q8,(q9,q10)))) fun q11=>
 some (q11,(q5.2.1,0)))
noncomputable def plane_Depth_1 (x0:T4):Option (Int):=
 some x0.2.2.1
noncomputable def plane_each__2 (fl:Nat) (x0:T10) (x1 x2:Int) (x3:Unit):Option (Int):=
 obind (plane_Depth_1 x0.1) fun q4=>
 obind (plane_Depth_1 x0.2.1) fun q5=>
 obind (plane_Depth_1 x0.2.2) fun q6=>
 obind (view_Centre x1) fun q7=>
 obind (view_Centre x2) fun q8=>
 obind (plane_At fl x0 (q4,(q5,q6)) q7 q8) fun q9=>
 some q9
noncomputable def plane_Depth (fl:Nat) (x0:T10) (x1 x2:Int):Option (Int):=
 obind (edge_Area x0) fun q3=>
 bnd (F.le q3 0) fun v4=>
 bite v4 (
 some 0) (
 obind (plane_each__2 fl x0 x1 x2 ()) fun q5=>
 bnd (F.min (F.min x0.1.2.2.1 x0.2.1.2.2.1) x0.2.2.2.2.1) fun v6=>
 bnd (F.max q5 v6) fun v7=>
 bnd (F.max (F.max x0.1.2.2.1 x0.2.1.2.2.1) x0.2.2.2.2.1) fun v8=>
 bnd (F.min v7 v8) fun v9=>
 some v9)
noncomputable def frags_Maker__frag (fl:Nat) (x0:(Int × Int × T2 × (List T3) × T9 × (List T5) × List T6) × Int × Int) (x1:T6) (x2:T2) (x3:Int × T4 × T4 × Int × Int × Int × Int × Int × Int × Int) (x4 x5:Int):Option (((Int × Int × Int × T2 × Int × Int × Int × Int) × Bool) × ((Int × Int × T2 × (List T3) × T9 × (List T5) × List T6) × Int × Int)):=
 obind (cover_Mask fl x3.2 x4 x5) fun q5=>
 bnd (F.eq q5 0) fun v6=>
 bite v6 (
 some (((0,(0,(0,((0,(0,(0,0))),(0,(0,(0,0))))))),false),x0)) (
 obind (F.get x0.1.2.2.2.2.2.1 x1.2.1) fun q7=>
 obind (frags_Maker__tex (x0.1.1,(x0.1.2.1,(x0.1.2.2.1.1,(x0.1.2.2.1.2.1,(x0.1.2.2.1.2.2.1,(x0.1.2.2.1.2.2.2,(x0.1.2.2.2.1,(x0.1.2.2.2.2.1,(x0.1.2.2.2.2.2.1,(x0.1.2.2.2.2.2.2,x0.2)))))))))) x1) fun q8=>
 obind (plane_Attrs fl x3.2 x4 x5) fun q9=>
 obind (vm_Shade fl q7 q8 q9 x4 x5) fun q10=>
 bnd (F.add .i64 x0.2.1 1) fun v11=>
 bnd (F.add .i64 x0.2.2 q10.2.1) fun v12=>
 obind (plane_Depth fl x3.2 x4 x5) fun q13=>
 some (((x4,(x5,(q5,((q13,(x1.1,(x2.1,x3.1))),q10.1)))),true),(x0.1,(v11,v12))))
noncomputable def glazierlaw22_gone_i34_l1 (fl:Nat):Nat -> Int -> Int -> Int -> Int -> Int -> T8 -> Int -> Int -> T2 -> Int -> (List T6) -> Int -> Int -> Int -> Int -> T1 -> Int -> Int -> Int -> Int -> Bool -> (List T2) -> Int -> Int -> Int -> Int -> Int -> Int -> Int -> Int -> Int -> Int -> Int -> Int -> Int -> Int -> Int -> Int -> Int -> Int -> Int -> Int -> Int -> Int -> Int -> T7 -> Bool -> Int -> Int -> Int -> Int -> Int -> Int -> Int -> Int -> Int -> Int -> (List T3) -> T9 -> (List T5) -> (List T6) -> Int -> Int -> Option ((T11 ⊕ (Int × Int × Int × Int × T8 × Int × Int × T2 × Int × (List T6) × Int × Int × Int × Int × T1 × Int × Int × Int × Int × Bool × (List T2) × Int × Int × Int × Int × Int × Int × Int × Int × Int × Int × Int × Int × Int × Int × Int × Int × Int × Int × Int × Int × Int × Int × Int × T7 × Bool × Int × Int × Int × Int × Int × Int × Int × Int × Int × Int × (List T3) × T9 × (List T5) × (List T6) × Int × Int × Unit)))
 | 0,_,_,_,_,_,_,_,_,_,_,_,_,_,_,_,_,_,_,_,_,_,_,_,_,_,_,_,_,_,_,_,_,_,_,_,_,_,_,_,_,_,_,_,_,_,_,_,_,_,_,_,_,_,_,_,_,_,_,_,_,_,_,_=>none
 | n + 1,x0,x1,x2,x3,x4,x5,x6,x7,x8,x9,x10,x11,x12,x13,x14,x15,x16,x17,x18,x19,x20,x21,x22,x23,x24,x25,x26,x27,x28,x29,x30,x31,x32,x33,x34,x35,x36,x37,x38,x39,x40,x41,x42,x43,x44,x45,x46,x47,x48,x49,x50,x51,x52,x53,x54,x55,x56,x57,x58,x59,x60,x61,x62=>
 bnd (F.lt x4 x2) fun v63=>
 bite v63 (
 obind (F.get x21 x16) fun q64=>
 nilE 0 (
 obind (frags_Maker__frag fl ((x51,(x52,((x53,(x54,(x55,x56))),(x57,(x58,(x59,x60)))))),(x61,x62)) (x17,(x18,(x19,(x20,x21)))) q64 (x22,((x23,(x24,(x25,(x26,(x27,(x28,x29)))))),((x30,(x31,(x32,(x33,(x34,(x35,x36)))))),(x37,(x38,(x39,(x40,(x41,(x42,x43))))))))) x4 x3) fun q65=>
 bite q65.1.2 (
 bgd (F.appOk 64 x45 [q65.1.1]) (
 bnd (F.app x45 [q65.1.1]) fun v66=>
 bnd (F.len v66) fun v67=>
 bnd (F.ge v67 x44) fun v68=>
 bite v68 (
 some (.inl (x5,(x6,(x7,(x8,(x9,(x10,(x11,(x12,(x13,(x14,(x15,(3,(x16,(x17,(x18,(x19,(x20,(x21,(x22,(x23,(x24,(x25,(x26,(x27,(x28,(x29,(x30,(x31,(x32,(x33,(x34,(x35,(x36,(x37,(x38,(x39,(x40,(x41,(x42,(x43,(x44,(v66,(x46,(x47,(x48,(x49,(x50,(q65.2.1.1,(q65.2.1.2.1,(q65.2.1.2.2.1.1,(q65.2.1.2.2.1.2.1,(q65.2.1.2.2.1.2.2.1,(q65.2.1.2.2.1.2.2.2,(q65.2.1.2.2.2.1,(q65.2.1.2.2.2.2.1,(q65.2.1.2.2.2.2.2.1,(q65.2.1.2.2.2.2.2.2,(q65.2.2.1,(q65.2.2.2,()))))))))))))))))))))))))))))))))))))))))))))))))))))))))))))) (
 bnd (F.len v66) fun v69=>
 bnd (F.gt v69 1000000) fun v70=>
 bite v70 (
 some (.inl (x5,(x6,(x7,(x8,(x9,(x10,(x11,(x12,(x13,(x14,(x15,(2,(x16,(x17,(x18,(x19,(x20,(x21,(x22,(x23,(x24,(x25,(x26,(x27,(x28,(x29,(x30,(x31,(x32,(x33,(x34,(x35,(x36,(x37,(x38,(x39,(x40,(x41,(x42,(x43,(x44,(v66,(x46,(x47,(x48,(x49,(x50,(q65.2.1.1,(q65.2.1.2.1,(q65.2.1.2.2.1.1,(q65.2.1.2.2.1.2.1,(q65.2.1.2.2.1.2.2.1,(q65.2.1.2.2.1.2.2.2,(q65.2.1.2.2.2.1,(q65.2.1.2.2.2.2.1,(q65.2.1.2.2.2.2.2.1,(q65.2.1.2.2.2.2.2.2,(q65.2.2.1,(q65.2.2.2,()))))))))))))))))))))))))))))))))))))))))))))))))))))))))))))) (
 bnd (F.add .i64 x4 1) fun v71=>
 glazierlaw22_gone_i34_l1 fl n x0 x1 x2 x3 v71 x5 x6 x7 x8 x9 x10 x11 x12 x13 x14 x15 x16 x17 x18 x19 x20 x21 x22 x23 x24 x25 x26 x27 x28 x29 x30 x31 x32 x33 x34 x35 x36 x37 x38 x39 x40 x41 x42 x43 x44 v66 x46 x47 x48 x49 x50 q65.2.1.1 q65.2.1.2.1 q65.2.1.2.2.1.1 q65.2.1.2.2.1.2.1 q65.2.1.2.2.1.2.2.1 q65.2.1.2.2.1.2.2.2 q65.2.1.2.2.2.1 q65.2.1.2.2.2.2.1 q65.2.1.2.2.2.2.2.1 q65.2.1.2.2.2.2.2.2 q65.2.2.1 q65.2.2.2)))) (
 bnd (F.add .i64 x4 1) fun v72=>
 glazierlaw22_gone_i34_l1 fl n x0 x1 x2 x3 v72 x5 x6 x7 x8 x9 x10 x11 x12 x13 x14 x15 x16 x17 x18 x19 x20 x21 x22 x23 x24 x25 x26 x27 x28 x29 x30 x31 x32 x33 x34 x35 x36 x37 x38 x39 x40 x41 x42 x43 x44 x45 x46 x47 x48 x49 x50 q65.2.1.1 q65.2.1.2.1 q65.2.1.2.2.1.1 q65.2.1.2.2.1.2.1 q65.2.1.2.2.1.2.2.1 q65.2.1.2.2.1.2.2.2 q65.2.1.2.2.2.1 q65.2.1.2.2.2.2.1 q65.2.1.2.2.2.2.2.1 q65.2.1.2.2.2.2.2.2 q65.2.2.1 q65.2.2.2)) (
 obind (frags_Maker__frag fl ((x51,(x52,((x53,(x54,(x55,x56))),(x57,(x58,(x59,x60)))))),(x61,x62)) (x17,(x18,(x19,(x20,x21)))) q64 (x22,((x23,(x24,(x25,(x26,(x27,(x28,x29)))))),((x30,(x31,(x32,(x33,(x34,(x35,x36)))))),(x37,(x38,(x39,(x40,(x41,(x42,x43))))))))) x4 x3) fun q73=>
 bite q73.1.2 (
 bgd (F.appOk 64 x45 [q73.1.1]) (
 bnd (F.app x45 [q73.1.1]) fun v74=>
 bnd (F.len v74) fun v75=>
 bnd (F.ge v75 x44) fun v76=>
 bite v76 (
 some (.inl (x5,(x6,(x7,(x8,(x9,(x10,(x11,(x12,(x13,(x14,(x15,(3,(x16,(x17,(x18,(x19,(x20,(x21,(x22,(x23,(x24,(x25,(x26,(x27,(x28,(x29,(x30,(x31,(x32,(x33,(x34,(x35,(x36,(x37,(x38,(x39,(x40,(x41,(x42,(x43,(x44,(v74,(x46,(x47,(x48,(x49,(x50,(q73.2.1.1,(q73.2.1.2.1,(q73.2.1.2.2.1.1,(q73.2.1.2.2.1.2.1,(q73.2.1.2.2.1.2.2.1,(q73.2.1.2.2.1.2.2.2,(q73.2.1.2.2.2.1,(q73.2.1.2.2.2.2.1,(q73.2.1.2.2.2.2.2.1,(q73.2.1.2.2.2.2.2.2,(q73.2.2.1,(q73.2.2.2,()))))))))))))))))))))))))))))))))))))))))))))))))))))))))))))) (
 bnd (F.len v74) fun v77=>
 bnd (F.gt v77 1000000) fun v78=>
 bite v78 (
 some (.inl (x5,(x6,(x7,(x8,(x9,(x10,(x11,(x12,(x13,(x14,(x15,(2,(x16,(x17,(x18,(x19,(x20,(x21,(x22,(x23,(x24,(x25,(x26,(x27,(x28,(x29,(x30,(x31,(x32,(x33,(x34,(x35,(x36,(x37,(x38,(x39,(x40,(x41,(x42,(x43,(x44,(v74,(x46,(x47,(x48,(x49,(x50,(q73.2.1.1,(q73.2.1.2.1,(q73.2.1.2.2.1.1,(q73.2.1.2.2.1.2.1,(q73.2.1.2.2.1.2.2.1,(q73.2.1.2.2.1.2.2.2,(q73.2.1.2.2.2.1,(q73.2.1.2.2.2.2.1,(q73.2.1.2.2.2.2.2.1,(q73.2.1.2.2.2.2.2.2,(q73.2.2.1,(q73.2.2.2,()))))))))))))))))))))))))))))))))))))))))))))))))))))))))))))) (
 bnd (F.add .i64 x4 1) fun v79=>
 glazierlaw22_gone_i34_l1 fl n x0 x1 x2 x3 v79 x5 x6 x7 x8 x9 x10 x11 x12 x13 x14 x15 x16 x17 x18 x19 x20 x21 x22 x23 x24 x25 x26 x27 x28 x29 x30 x31 x32 x33 x34 x35 x36 x37 x38 x39 x40 x41 x42 x43 x44 v74 x46 x47 x48 x49 x50 q73.2.1.1 q73.2.1.2.1 q73.2.1.2.2.1.1 q73.2.1.2.2.1.2.1 q73.2.1.2.2.1.2.2.1 q73.2.1.2.2.1.2.2.2 q73.2.1.2.2.2.1 q73.2.1.2.2.2.2.1 q73.2.1.2.2.2.2.2.1 q73.2.1.2.2.2.2.2.2 q73.2.2.1 q73.2.2.2)))) (
 bnd (F.add .i64 x4 1) fun v80=>
 glazierlaw22_gone_i34_l1 fl n x0 x1 x2 x3 v80 x5 x6 x7 x8 x9 x10 x11 x12 x13 x14 x15 x16 x17 x18 x19 x20 x21 x22 x23 x24 x25 x26 x27 x28 x29 x30 x31 x32 x33 x34 x35 x36 x37 x38 x39 x40 x41 x42 x43 x44 x45 x46 x47 x48 x49 x50 q73.2.1.1 q73.2.1.2.1 q73.2.1.2.2.1.1 q73.2.1.2.2.1.2.1 q73.2.1.2.2.1.2.2.1 q73.2.1.2.2.1.2.2.2 q73.2.1.2.2.2.1 q73.2.1.2.2.2.2.1 q73.2.1.2.2.2.2.2.1 q73.2.1.2.2.2.2.2.2 q73.2.2.1 q73.2.2.2))) (
 some (.inr (x0,(x1,(x2,(x3,(x5,(x6,(x7,(x8,(x9,(x10,(x11,(x12,(x13,(x14,(x15,(x16,(x17,(x18,(x19,(x20,(x21,(x22,(x23,(x24,(x25,(x26,(x27,(x28,(x29,(x30,(x31,(x32,(x33,(x34,(x35,(x36,(x37,(x38,(x39,(x40,(x41,(x42,(x43,(x44,(x45,(x46,(x47,(x48,(x49,(x50,(x51,(x52,(x53,(x54,(x55,(x56,(x57,(x58,(x59,(x60,(x61,(x62,()))))))))))))))))))))))))))))))))))))))))))))))))))))))))))))))))
noncomputable def glazierlaw22_gone_i34_l2 (fl:Nat):Nat -> Int -> Int -> Int -> Int -> T8 -> Int -> Int -> T2 -> Int -> (List T6) -> Int -> Int -> Int -> Int -> T1 -> Int -> Int -> Int -> Int -> Bool -> (List T2) -> Int -> Int -> Int -> Int -> Int -> Int -> Int -> Int -> Int -> Int -> Int -> Int -> Int -> Int -> Int -> Int -> Int -> Int -> Int -> Int -> Int -> Int -> Int -> T7 -> Bool -> Int -> Int -> Int -> Int -> Int -> Int -> Int -> Int -> Int -> Int -> (List T3) -> T9 -> (List T5) -> (List T6) -> Int -> Int -> Option ((T11 ⊕ (T8 × Int × Int × T2 × Int × (List T6) × Int × Int × Int × Int × T1 × Int × Int × Int × Int × Bool × (List T2) × Int × Int × Int × Int × Int × Int × Int × Int × Int × Int × Int × Int × Int × Int × Int × Int × Int × Int × Int × Int × Int × Int × Int × T7 × Bool × Int × Int × Int × Int × Int × Int × Int × Int × Int × Int × (List T3) × T9 × (List T5) × (List T6) × Int × Int × Unit)))
 | 0,_,_,_,_,_,_,_,_,_,_,_,_,_,_,_,_,_,_,_,_,_,_,_,_,_,_,_,_,_,_,_,_,_,_,_,_,_,_,_,_,_,_,_,_,_,_,_,_,_,_,_,_,_,_,_,_,_,_,_,_,_,_=>none
 | n + 1,x0,x1,x2,x3,x4,x5,x6,x7,x8,x9,x10,x11,x12,x13,x14,x15,x16,x17,x18,x19,x20,x21,x22,x23,x24,x25,x26,x27,x28,x29,x30,x31,x32,x33,x34,x35,x36,x37,x38,x39,x40,x41,x42,x43,x44,x45,x46,x47,x48,x49,x50,x51,x52,x53,x54,x55,x56,x57,x58,x59,x60,x61=>
 bnd (F.lt x3 x0) fun v62=>
 bite v62 (
 obind (glazierlaw22_gone_i34_l1 fl fl x0 x1 x2 x3 x1 x4 x5 x6 x7 x8 x9 x10 x11 x12 x13 x14 x15 x16 x17 x18 x19 x20 x21 x22 x23 x24 x25 x26 x27 x28 x29 x30 x31 x32 x33 x34 x35 x36 x37 x38 x39 x40 x41 x42 x43 x44 x45 x46 x47 x48 x49 x50 x51 x52 x53 x54 x55 x56 x57 x58 x59 x60 x61) fun q63=>
 osum q63 (fun s64=>
 some (.inl (s64.1,(s64.2.1,(s64.2.2.1,(s64.2.2.2.1,(s64.2.2.2.2.1,(s64.2.2.2.2.2.1,(s64.2.2.2.2.2.2.1,(s64.2.2.2.2.2.2.2.1,(s64.2.2.2.2.2.2.2.2.1,(s64.2.2.2.2.2.2.2.2.2.1,(s64.2.2.2.2.2.2.2.2.2.2.1,(s64.2.2.2.2.2.2.2.2.2.2.2.1,(s64.2.2.2.2.2.2.2.2.2.2.2.2.1,(s64.2.2.2.2.2.2.2.2.2.2.2.2.2.1,(s64.2.2.2.2.2.2.2.2.2.2.2.2.2.2.1,(s64.2.2.2.2.2.2.2.2.2.2.2.2.2.2.2.1,(s64.2.2.2.2.2.2.2.2.2.2.2.2.2.2.2.2.1,(s64.2.2.2.2.2.2.2.2.2.2.2.2.2.2.2.2.2.1,(s64.2.2.2.2.2.2.2.2.2.2.2.2.2.2.2.2.2.2.1,(s64.2.2.2.2.2.2.2.2.2.2.2.2.2.2.2.2.2.2.2.1,(s64.2.2.2.2.2.2.2.2.2.2.2.2.2.2.2.2.2.2.2.2.1,(s64.2.2.2.2.2.2.2.2.2.2.2.2.2.2.2.2.2.2.2.2.2.1,(s64.2.2.2.2.2.2.2.2.2.2.2.2.2.2.2.2.2.2.2.2.2.2.1,(s64.2.2.2.2.2.2.2.2.2.2.2.2.2.2.2.2.2.2.2.2.2.2.2.1,(s64.2.2.2.2.2.2.2.2.2.2.2.2.2.2.2.2.2.2.2.2.2.2.2.2.1,(s64.2.2.2.2.2.2.2.2.2.2.2.2.2.2.2.2.2.2.2.2.2.2.2.2.2.1,(s64.2.2.2.2.2.2.2.2.2.2.2.2.2.2.2.2.2.2.2.2.2.2.2.2.2.2.1,(s64.2.2.2.2.2.2.2.2.2.2.2.2.2.2.2.2.2.2.2.2.2.2.2.2.2.2.2.1,(s64.2.2.2.2.2.2.2.2.2.2.2.2.2.2.2.2.2.2.2.2.2.2.2.2.2.2.2.2.1,(s64.2.2.2.2.2.2.2.2.2.2.2.2.2.2.2.2.2.2.2.2.2.2.2.2.2.2.2.2.2.1,(s64.2.2.2.2.2.2.2.2.2.2.2.2.2.2.2.2.2.2.2.2.2.2.2.2.2.2.2.2.2.2.1,(s64.2.2.2.2.2.2.2.2.2.2.2.2.2.2.2.2.2.2.2.2.2.2.2.2.2.2.2.2.2.2.2.1,(s64.2.2.2.2.2.2.2.2.2.2.2.2.2.2.2.2.2.2.2.2.2.2.2.2.2.2.2.2.2.2.2.2.1,(s64.2.2.2.2.2.2.2.2.2.2.2.2.2.2.2.2.2.2.2.2.2.2.2.2.2.2.2.2.2.2.2.2.2.1,(s64.2.2.2.2.2.2.2.2.2.2.2.2.2.2.2.2.2.2.2.2.2.2.2.2.2.2.2.2.2.2.2.2.2.2.1,(s64.2.2.2.2.2.2.2.2.2.2.2.2.2.2.2.2.2.2.2.2.2.2.2.2.2.2.2.2.2.2.2.2.2.2.2.1,(s64.2.2.2.2.2.2.2.2.2.2.2.2.2.2.2.2.2.2.2.2.2.2.2.2.2.2.2.2.2.2.2.2.2.2.2.2.1,(s64.2.2.2.2.2.2.2.2.2.2.2.2.2.2.2.2.2.2.2.2.2.2.2.2.2.2.2.2.2.2.2.2.2.2.2.2.2.1,(s64.2.2.2.2.2.2.2.2.2.2.2.2.2.2.2.2.2.2.2.2.2.2.2.2.2.2.2.2.2.2.2.2.2.2.2.2.2.2.1,(s64.2.2.2.2.2.2.2.2.2.2.2.2.2.2.2.2.2.2.2.2.2.2.2.2.2.2.2.2.2.2.2.2.2.2.2.2.2.2.2.1,(s64.2.2.2.2.2.2.2.2.2.2.2.2.2.2.2.2.2.2.2.2.2.2.2.2.2.2.2.2.2.2.2.2.2.2.2.2.2.2.2.2.1,(s64.2.2.2.2.2.2.2.2.2.2.2.2.2.2.2.2.2.2.2.2.2.2.2.2.2.2.2.2.2.2.2.2.2.2.2.2.2.2.2.2.2.1,(s64.2.2.2.2.2.2.2.2.2.2.2.2.2.2.2.2.2.2.2.2.2.2.2.2.2.2.2.2.2.2.2.2.2.2.2.2.2.2.2.2.2.2.1,(s64.2.2.2.2.2.2.2.2.2.2.2.2.2.2.2.2.2.2.2.2.2.2.2.2.2.2.2.2.2.2.2.2.2.2.2.2.2.2.2.2.2.2.2.1,(s64.2.2.2.2.2.2.2.2.2.2.2.2.2.2.2.2.2.2.2.2.2.2.2.2.2.2.2.2.2.2.2.2.2.2.2.2.2.2.2.2.2.2.2.2.1,(s64.2.2.2.2.2.2.2.2.2.2.2.2.2.2.2.2.2.2.2.2.2.2.2.2.2.2.2.2.2.2.2.2.2.2.2.2.2.2.2.2.2.2.2.2.2.1,(s64.2.2.2.2.2.2.2.2.2.2.2.2.2.2.2.2.2.2.2.2.2.2.2.2.2.2.2.2.2.2.2.2.2.2.2.2.2.2.2.2.2.2.2.2.2.2.1,(s64.2.2.2.2.2.2.2.2.2.2.2.2.2.2.2.2.2.2.2.2.2.2.2.2.2.2.2.2.2.2.2.2.2.2.2.2.2.2.2.2.2.2.2.2.2.2.2.1,(s64.2.2.2.2.2.2.2.2.2.2.2.2.2.2.2.2.2.2.2.2.2.2.2.2.2.2.2.2.2.2.2.2.2.2.2.2.2.2.2.2.2.2.2.2.2.2.2.2.1,(s64.2.2.2.2.2.2.2.2.2.2.2.2.2.2.2.2.2.2.2.2.2.2.2.2.2.2.2.2.2.2.2.2.2.2.2.2.2.2.2.2.2.2.2.2.2.2.2.2.2.1,(s64.2.2.2.2.2.2.2.2.2.2.2.2.2.2.2.2.2.2.2.2.2.2.2.2.2.2.2.2.2.2.2.2.2.2.2.2.2.2.2.2.2.2.2.2.2.2.2.2.2.2.1,(s64.2.2.2.2.2.2.2.2.2.2.2.2.2.2.2.2.2.2.2.2.2.2.2.2.2.2.2.2.2.2.2.2.2.2.2.2.2.2.2.2.2.2.2.2.2.2.2.2.2.2.2.1,(s64.2.2.2.2.2.2.2.2.2.2.2.2.2.2.2.2.2.2.2.2.2.2.2.2.2.2.2.2.2.2.2.2.2.2.2.2.2.2.2.2.2.2.2.2.2.2.2.2.2.2.2.2.1,(s64.2.2.2.2.2.2.2.2.2.2.2.2.2.2.2.2.2.2.2.2.2.2.2.2.2.2.2.2.2.2.2.2.2.2.2.2.2.2.2.2.2.2.2.2.2.2.2.2.2.2.2.2.2.1,(s64.2.2.2.2.2.2.2.2.2.2.2.2.2.2.2.2.2.2.2.2.2.2.2.2.2.2.2.2.2.2.2.2.2.2.2.2.2.2.2.2.2.2.2.2.2.2.2.2.2.2.2.2.2.2.1,(s64.2.2.2.2.2.2.2.2.2.2.2.2.2.2.2.2.2.2.2.2.2.2.2.2.2.2.2.2.2.2.2.2.2.2.2.2.2.2.2.2.2.2.2.2.2.2.2.2.2.2.2.2.2.2.2.1,(s64.2.2.2.2.2.2.2.2.2.2.2.2.2.2.2.2.2.2.2.2.2.2.2.2.2.2.2.2.2.2.2.2.2.2.2.2.2.2.2.2.2.2.2.2.2.2.2.2.2.2.2.2.2.2.2.2.1,(s64.2.2.2.2.2.2.2.2.2.2.2.2.2.2.2.2.2.2.2.2.2.2.2.2.2.2.2.2.2.2.2.2.2.2.2.2.2.2.2.2.2.2.2.2.2.2.2.2.2.2.2.2.2.2.2.2.2.1,(s64.2.2.2.2.2.2.2.2.2.2.2.2.2.2.2.2.2.2.2.2.2.2.2.2.2.2.2.2.2.2.2.2.2.2.2.2.2.2.2.2.2.2.2.2.2.2.2.2.2.2.2.2.2.2.2.2.2.2.1,()))))))))))))))))))))))))))))))))))))))))))))))))))))))))))))) (fun r65=>
 bnd (F.add .i64 r65.2.2.2.1 1) fun v66=>
 glazierlaw22_gone_i34_l2 fl n r65.1 r65.2.1 r65.2.2.1 v66 r65.2.2.2.2.1 r65.2.2.2.2.2.1 r65.2.2.2.2.2.2.1 r65.2.2.2.2.2.2.2.1 r65.2.2.2.2.2.2.2.2.1 r65.2.2.2.2.2.2.2.2.2.1 r65.2.2.2.2.2.2.2.2.2.2.1 r65.2.2.2.2.2.2.2.2.2.2.2.1 r65.2.2.2.2.2.2.2.2.2.2.2.2.1 r65.2.2.2.2.2.2.2.2.2.2.2.2.2.1 r65.2.2.2.2.2.2.2.2.2.2.2.2.2.2.1 r65.2.2.2.2.2.2.2.2.2.2.2.2.2.2.2.1 r65.2.2.2.2.2.2.2.2.2.2.2.2.2.2.2.2.1 r65.2.2.2.2.2.2.2.2.2.2.2.2.2.2.2.2.2.1 r65.2.2.2.2.2.2.2.2.2.2.2.2.2.2.2.2.2.2.1 r65.2.2.2.2.2.2.2.2.2.2.2.2.2.2.2.2.2.2.2.1 r65.2.2.2.2.2.2.2.2.2.2.2.2.2.2.2.2.2.2.2.2.1 r65.2.2.2.2.2.2.2.2.2.2.2.2.2.2.2.2.2.2.2.2.2.1 r65.2.2.2.2.2.2.2.2.2.2.2.2.2.2.2.2.2.2.2.2.2.2.1 r65.2.2.2.2.2.2.2.2.2.2.2.2.2.2.2.2.2.2.2.2.2.2.2.1 r65.2.2.2.2.2.2.2.2.2.2.2.2.2.2.2.2.2.2.2.2.2.2.2.2.1 r65.2.2.2.2.2.2.2.2.2.2.2.2.2.2.2.2.2.2.2.2.2.2.2.2.2.1 r65.2.2.2.2.2.2.2.2.2.2.2.2.2.2.2.2.2.2.2.2.2.2.2.2.2.2.1 r65.2.2.2.2.2.2.2.2.2.2.2.2.2.2.2.2.2.2.2.2.2.2.2.2.2.2.2.1 r65.2.2.2.2.2.2.2.2.2.2.2.2.2.2.2.2.2.2.2.2.2.2.2.2.2.2.2.2.1 r65.2.2.2.2.2.2.2.2.2.2.2.2.2.2.2.2.2.2.2.2.2.2.2.2.2.2.2.2.2.1 r65.2.2.2.2.2.2.2.2.2.2.2.2.2.2.2.2.2.2.2.2.2.2.2.2.2.2.2.2.2.2.1 r65.2.2.2.2.2.2.2.2.2.2.2.2.2.2.2.2.2.2.2.2.2.2.2.2.2.2.2.2.2.2.2.1 r65.2.2.2.2.2.2.2.2.2.2.2.2.2.2.2.2.2.2.2.2.2.2.2.2.2.2.2.2.2.2.2.2.1 r65.2.2.2.2.2.2.2.2.2.2.2.2.2.2.2.2.2.2.2.2.2.2.2.2.2.2.2.2.2.2.2.2.2.1 r65.2.2.2.2.2.2.2.2.2.2.2.2.2.2.2.2.2.2.2.2.2.2.2.2.2.2.2.2.2.2.2.2.2.2.1 r65.2.2.2.2.2.2.2.2.2.2.2.2.2.2.2.2.2.2.2.2.2.2.2.2.2.2.2.2.2.2.2.2.2.2.2.1 r65.2.2.2.2.2.2.2.2.2.2.2.2.2.2.2.2.2.2.2.2.2.2.2.2.2.2.2.2.2.2.2.2.2.2.2.2.1 r65.2.2.2.2.2.2.2.2.2.2.2.2.2.2.2.2.2.2.2.2.2.2.2.2.2.2.2.2.2.2.2.2.2.2.2.2.2.1 r65.2.2.2.2.2.2.2.2.2.2.2.2.2.2.2.2.2.2.2.2.2.2.2.2.2.2.2.2.2.2.2.2.2.2.2.2.2.2.1 r65.2.2.2.2.2.2.2.2.2.2.2.2.2.2.2.2.2.2.2.2.2.2.2.2.2.2.2.2.2.2.2.2.2.2.2.2.2.2.2.1 r65.2.2.2.2.2.2.2.2.2.2.2.2.2.2.2.2.2.2.2.2.2.2.2.2.2.2.2.2.2.2.2.2.2.2.2.2.2.2.2.2.1 r65.2.2.2.2.2.2.2.2.2.2.2.2.2.2.2.2.2.2.2.2.2.2.2.2.2.2.2.2.2.2.2.2.2.2.2.2.2.2.2.2.2.1 r65.2.2.2.2.2.2.2.2.2.2.2.2.2.2.2.2.2.2.2.2.2.2.2.2.2.2.2.2.2.2.2.2.2.2.2.2.2.2.2.2.2.2.1 r65.2.2.2.2.2.2.2.2.2.2.2.2.2.2.2.2.2.2.2.2.2.2.2.2.2.2.2.2.2.2.2.2.2.2.2.2.2.2.2.2.2.2.2.1 r65.2.2.2.2.2.2.2.2.2.2.2.2.2.2.2.2.2.2.2.2.2.2.2.2.2.2.2.2.2.2.2.2.2.2.2.2.2.2.2.2.2.2.2.2.1 r65.2.2.2.2.2.2.2.2.2.2.2.2.2.2.2.2.2.2.2.2.2.2.2.2.2.2.2.2.2.2.2.2.2.2.2.2.2.2.2.2.2.2.2.2.2.1 r65.2.2.2.2.2.2.2.2.2.2.2.2.2.2.2.2.2.2.2.2.2.2.2.2.2.2.2.2.2.2.2.2.2.2.2.2.2.2.2.2.2.2.2.2.2.2.1 r65.2.2.2.2.2.2.2.2.2.2.2.2.2.2.2.2.2.2.2.2.2.2.2.2.2.2.2.2.2.2.2.2.2.2.2.2.2.2.2.2.2.2.2.2.2.2.2.1 r65.2.2.2.2.2.2.2.2.2.2.2.2.2.2.2.2.2.2.2.2.2.2.2.2.2.2.2.2.2.2.2.2.2.2.2.2.2.2.2.2.2.2.2.2.2.2.2.2.1 r65.2.2.2.2.2.2.2.2.2.2.2.2.2.2.2.2.2.2.2.2.2.2.2.2.2.2.2.2.2.2.2.2.2.2.2.2.2.2.2.2.2.2.2.2.2.2.2.2.2.1 r65.2.2.2.2.2.2.2.2.2.2.2.2.2.2.2.2.2.2.2.2.2.2.2.2.2.2.2.2.2.2.2.2.2.2.2.2.2.2.2.2.2.2.2.2.2.2.2.2.2.2.1 r65.2.2.2.2.2.2.2.2.2.2.2.2.2.2.2.2.2.2.2.2.2.2.2.2.2.2.2.2.2.2.2.2.2.2.2.2.2.2.2.2.2.2.2.2.2.2.2.2.2.2.2.1 r65.2.2.2.2.2.2.2.2.2.2.2.2.2.2.2.2.2.2.2.2.2.2.2.2.2.2.2.2.2.2.2.2.2.2.2.2.2.2.2.2.2.2.2.2.2.2.2.2.2.2.2.2.1 r65.2.2.2.2.2.2.2.2.2.2.2.2.2.2.2.2.2.2.2.2.2.2.2.2.2.2.2.2.2.2.2.2.2.2.2.2.2.2.2.2.2.2.2.2.2.2.2.2.2.2.2.2.2.1 r65.2.2.2.2.2.2.2.2.2.2.2.2.2.2.2.2.2.2.2.2.2.2.2.2.2.2.2.2.2.2.2.2.2.2.2.2.2.2.2.2.2.2.2.2.2.2.2.2.2.2.2.2.2.2.1 r65.2.2.2.2.2.2.2.2.2.2.2.2.2.2.2.2.2.2.2.2.2.2.2.2.2.2.2.2.2.2.2.2.2.2.2.2.2.2.2.2.2.2.2.2.2.2.2.2.2.2.2.2.2.2.2.1 r65.2.2.2.2.2.2.2.2.2.2.2.2.2.2.2.2.2.2.2.2.2.2.2.2.2.2.2.2.2.2.2.2.2.2.2.2.2.2.2.2.2.2.2.2.2.2.2.2.2.2.2.2.2.2.2.2.1 r65.2.2.2.2.2.2.2.2.2.2.2.2.2.2.2.2.2.2.2.2.2.2.2.2.2.2.2.2.2.2.2.2.2.2.2.2.2.2.2.2.2.2.2.2.2.2.2.2.2.2.2.2.2.2.2.2.2.1 r65.2.2.2.2.2.2.2.2.2.2.2.2.2.2.2.2.2.2.2.2.2.2.2.2.2.2.2.2.2.2.2.2.2.2.2.2.2.2.2.2.2.2.2.2.2.2.2.2.2.2.2.2.2.2.2.2.2.2.1 r65.2.2.2.2.2.2.2.2.2.2.2.2.2.2.2.2.2.2.2.2.2.2.2.2.2.2.2.2.2.2.2.2.2.2.2.2.2.2.2.2.2.2.2.2.2.2.2.2.2.2.2.2.2.2.2.2.2.2.2.1 r65.2.2.2.2.2.2.2.2.2.2.2.2.2.2.2.2.2.2.2.2.2.2.2.2.2.2.2.2.2.2.2.2.2.2.2.2.2.2.2.2.2.2.2.2.2.2.2.2.2.2.2.2.2.2.2.2.2.2.2.2.1 r65.2.2.2.2.2.2.2.2.2.2.2.2.2.2.2.2.2.2.2.2.2.2.2.2.2.2.2.2.2.2.2.2.2.2.2.2.2.2.2.2.2.2.2.2.2.2.2.2.2.2.2.2.2.2.2.2.2.2.2.2.2.1)) (
 some (.inr (x4,(x5,(x6,(x7,(x8,(x9,(x10,(x11,(x12,(x13,(x14,(x15,(x16,(x17,(x18,(x19,(x20,(x21,(x22,(x23,(x24,(x25,(x26,(x27,(x28,(x29,(x30,(x31,(x32,(x33,(x34,(x35,(x36,(x37,(x38,(x39,(x40,(x41,(x42,(x43,(x44,(x45,(x46,(x47,(x48,(x49,(x50,(x51,(x52,(x53,(x54,(x55,(x56,(x57,(x58,(x59,(x60,(x61,()))))))))))))))))))))))))))))))))))))))))))))))))))))))))))))
noncomputable def glazierlaw22_gone_i22_l1 (fl:Nat):Nat -> T8 -> Int -> Int -> Int -> (List T6) -> Int -> Int -> Int -> Int -> T1 -> Int -> Int -> Int -> Int -> Bool -> (List T2) -> Int -> T7 -> Bool -> Int -> Int -> Int -> Int -> Int -> Int -> Int -> Int -> Int -> Int -> (List T3) -> T9 -> (List T5) -> (List T6) -> Int -> Int -> Option (((Int × (List T6) × Int × Int × Int × Int × T1 × Int × Int × T7 × Bool × Int × Int × Int × Int × Int × Int × Int × Int × Int × Int × (List T3) × T9 × (List T5) × (List T6) × Int × Int × Unit) ⊕ (Int × (List T6) × Int × Int × Int × Int × T1 × Int × T7 × Bool × Int × Int × Int × Int × Int × Int × Int × Int × Int × Int × (List T3) × T9 × (List T5) × (List T6) × Int × Int × Unit)))
 | 0,_,_,_,_,_,_,_,_,_,_,_,_,_,_,_,_,_,_,_,_,_,_,_,_,_,_,_,_,_,_,_,_,_,_,_=>none
 | n + 1,x0,x1,x2,x3,x4,x5,x6,x7,x8,x9,x10,x11,x12,x13,x14,x15,x16,x17,x18,x19,x20,x21,x22,x23,x24,x25,x26,x27,x28,x29,x30,x31,x32,x33,x34=>
 bnd (F.lt x2 x1) fun v35=>
 bite v35 (
 obind (F.get x0 x2) fun q36=>
 obind (setup_Box fl x23 x24 q36.2) fun q37=>
 bnd (F.max q37.1 x19) fun v38=>
 bnd (F.max q37.2.1 x20) fun v39=>
 bnd (F.min q37.2.2.1 x21) fun v40=>
 bnd (F.min q37.2.2.2 x22) fun v41=>
 obind (setup_Pixels v38 v39 v40 v41) fun q42=>
 obind (glazierlaw22_gone_i34_l2 fl fl q42.2.1 q42.2.2.1 q42.2.2.2 q42.1 x0 x1 x2 q42 x3 x4 x5 x6 x7 x8 x9 x10 x11 x12 x13 x14 x15 q36.1 q36.2.1.1 q36.2.1.2.1 q36.2.1.2.2.1 q36.2.1.2.2.2.1 q36.2.1.2.2.2.2.1 q36.2.1.2.2.2.2.2.1 q36.2.1.2.2.2.2.2.2 q36.2.2.1.1 q36.2.2.1.2.1 q36.2.2.1.2.2.1 q36.2.2.1.2.2.2.1 q36.2.2.1.2.2.2.2.1 q36.2.2.1.2.2.2.2.2.1 q36.2.2.1.2.2.2.2.2.2 q36.2.2.2.1 q36.2.2.2.2.1 q36.2.2.2.2.2.1 q36.2.2.2.2.2.2.1 q36.2.2.2.2.2.2.2.1 q36.2.2.2.2.2.2.2.2.1 q36.2.2.2.2.2.2.2.2.2 x16 x17 x18 x19 x20 x21 x22 x23 x24 x25 x26 x27 x28 x29 x30 x31 x32 x33 x34) fun q43=>
 osum q43 (fun s44=>
 some (.inl (s44.2.2.2.2.1,(s44.2.2.2.2.2.1,(s44.2.2.2.2.2.2.1,(s44.2.2.2.2.2.2.2.1,(s44.2.2.2.2.2.2.2.2.1,(s44.2.2.2.2.2.2.2.2.2.1,(s44.2.2.2.2.2.2.2.2.2.2.1,(s44.2.2.2.2.2.2.2.2.2.2.2.1,(s44.2.2.2.2.2.2.2.2.2.2.2.2.2.2.2.2.2.2.2.2.2.2.2.2.2.2.2.2.2.2.2.2.2.2.2.2.2.2.2.2.1,(s44.2.2.2.2.2.2.2.2.2.2.2.2.2.2.2.2.2.2.2.2.2.2.2.2.2.2.2.2.2.2.2.2.2.2.2.2.2.2.2.2.2.1,(s44.2.2.2.2.2.2.2.2.2.2.2.2.2.2.2.2.2.2.2.2.2.2.2.2.2.2.2.2.2.2.2.2.2.2.2.2.2.2.2.2.2.2.1,(s44.2.2.2.2.2.2.2.2.2.2.2.2.2.2.2.2.2.2.2.2.2.2.2.2.2.2.2.2.2.2.2.2.2.2.2.2.2.2.2.2.2.2.2.1,(s44.2.2.2.2.2.2.2.2.2.2.2.2.2.2.2.2.2.2.2.2.2.2.2.2.2.2.2.2.2.2.2.2.2.2.2.2.2.2.2.2.2.2.2.2.1,(s44.2.2.2.2.2.2.2.2.2.2.2.2.2.2.2.2.2.2.2.2.2.2.2.2.2.2.2.2.2.2.2.2.2.2.2.2.2.2.2.2.2.2.2.2.2.1,(s44.2.2.2.2.2.2.2.2.2.2.2.2.2.2.2.2.2.2.2.2.2.2.2.2.2.2.2.2.2.2.2.2.2.2.2.2.2.2.2.2.2.2.2.2.2.2.1,(s44.2.2.2.2.2.2.2.2.2.2.2.2.2.2.2.2.2.2.2.2.2.2.2.2.2.2.2.2.2.2.2.2.2.2.2.2.2.2.2.2.2.2.2.2.2.2.2.1,(s44.2.2.2.2.2.2.2.2.2.2.2.2.2.2.2.2.2.2.2.2.2.2.2.2.2.2.2.2.2.2.2.2.2.2.2.2.2.2.2.2.2.2.2.2.2.2.2.2.1,(s44.2.2.2.2.2.2.2.2.2.2.2.2.2.2.2.2.2.2.2.2.2.2.2.2.2.2.2.2.2.2.2.2.2.2.2.2.2.2.2.2.2.2.2.2.2.2.2.2.2.1,(s44.2.2.2.2.2.2.2.2.2.2.2.2.2.2.2.2.2.2.2.2.2.2.2.2.2.2.2.2.2.2.2.2.2.2.2.2.2.2.2.2.2.2.2.2.2.2.2.2.2.2.1,(s44.2.2.2.2.2.2.2.2.2.2.2.2.2.2.2.2.2.2.2.2.2.2.2.2.2.2.2.2.2.2.2.2.2.2.2.2.2.2.2.2.2.2.2.2.2.2.2.2.2.2.2.1,(s44.2.2.2.2.2.2.2.2.2.2.2.2.2.2.2.2.2.2.2.2.2.2.2.2.2.2.2.2.2.2.2.2.2.2.2.2.2.2.2.2.2.2.2.2.2.2.2.2.2.2.2.2.1,(s44.2.2.2.2.2.2.2.2.2.2.2.2.2.2.2.2.2.2.2.2.2.2.2.2.2.2.2.2.2.2.2.2.2.2.2.2.2.2.2.2.2.2.2.2.2.2.2.2.2.2.2.2.2.1,(s44.2.2.2.2.2.2.2.2.2.2.2.2.2.2.2.2.2.2.2.2.2.2.2.2.2.2.2.2.2.2.2.2.2.2.2.2.2.2.2.2.2.2.2.2.2.2.2.2.2.2.2.2.2.2.1,(s44.2.2.2.2.2.2.2.2.2.2.2.2.2.2.2.2.2.2.2.2.2.2.2.2.2.2.2.2.2.2.2.2.2.2.2.2.2.2.2.2.2.2.2.2.2.2.2.2.2.2.2.2.2.2.2.1,(s44.2.2.2.2.2.2.2.2.2.2.2.2.2.2.2.2.2.2.2.2.2.2.2.2.2.2.2.2.2.2.2.2.2.2.2.2.2.2.2.2.2.2.2.2.2.2.2.2.2.2.2.2.2.2.2.2.1,(s44.2.2.2.2.2.2.2.2.2.2.2.2.2.2.2.2.2.2.2.2.2.2.2.2.2.2.2.2.2.2.2.2.2.2.2.2.2.2.2.2.2.2.2.2.2.2.2.2.2.2.2.2.2.2.2.2.2.1,(s44.2.2.2.2.2.2.2.2.2.2.2.2.2.2.2.2.2.2.2.2.2.2.2.2.2.2.2.2.2.2.2.2.2.2.2.2.2.2.2.2.2.2.2.2.2.2.2.2.2.2.2.2.2.2.2.2.2.2.1,()))))))))))))))))))))))))))))) (fun r45=>
 bnd (F.add .i64 r45.2.2.1 1) fun v46=>
 glazierlaw22_gone_i22_l1 fl n r45.1 r45.2.1 v46 r45.2.2.2.2.1 r45.2.2.2.2.2.1 r45.2.2.2.2.2.2.1 r45.2.2.2.2.2.2.2.1 r45.2.2.2.2.2.2.2.2.1 r45.2.2.2.2.2.2.2.2.2.1 r45.2.2.2.2.2.2.2.2.2.2.1 r45.2.2.2.2.2.2.2.2.2.2.2.1 r45.2.2.2.2.2.2.2.2.2.2.2.2.1 r45.2.2.2.2.2.2.2.2.2.2.2.2.2.1 r45.2.2.2.2.2.2.2.2.2.2.2.2.2.2.1 r45.2.2.2.2.2.2.2.2.2.2.2.2.2.2.2.1 r45.2.2.2.2.2.2.2.2.2.2.2.2.2.2.2.2.1 r45.2.2.2.2.2.2.2.2.2.2.2.2.2.2.2.2.2.2.2.2.2.2.2.2.2.2.2.2.2.2.2.2.2.2.2.2.2.2.2.1 r45.2.2.2.2.2.2.2.2.2.2.2.2.2.2.2.2.2.2.2.2.2.2.2.2.2.2.2.2.2.2.2.2.2.2.2.2.2.2.2.2.1 r45.2.2.2.2.2.2.2.2.2.2.2.2.2.2.2.2.2.2.2.2.2.2.2.2.2.2.2.2.2.2.2.2.2.2.2.2.2.2.2.2.2.1 r45.2.2.2.2.2.2.2.2.2.2.2.2.2.2.2.2.2.2.2.2.2.2.2.2.2.2.2.2.2.2.2.2.2.2.2.2.2.2.2.2.2.2.1 r45.2.2.2.2.2.2.2.2.2.2.2.2.2.2.2.2.2.2.2.2.2.2.2.2.2.2.2.2.2.2.2.2.2.2.2.2.2.2.2.2.2.2.2.1 r45.2.2.2.2.2.2.2.2.2.2.2.2.2.2.2.2.2.2.2.2.2.2.2.2.2.2.2.2.2.2.2.2.2.2.2.2.2.2.2.2.2.2.2.2.1 r45.2.2.2.2.2.2.2.2.2.2.2.2.2.2.2.2.2.2.2.2.2.2.2.2.2.2.2.2.2.2.2.2.2.2.2.2.2.2.2.2.2.2.2.2.2.1 r45.2.2.2.2.2.2.2.2.2.2.2.2.2.2.2.2.2.2.2.2.2.2.2.2.2.2.2.2.2.2.2.2.2.2.2.2.2.2.2.2.2.2.2.2.2.2.1 r45.2.2.2.2.2.2.2.2.2.2.2.2.2.2.2.2.2.2.2.2.2.2.2.2.2.2.2.2.2.2.2.2.2.2.2.2.2.2.2.2.2.2.2.2.2.2.2.1 r45.2.2.2.2.2.2.2.2.2.2.2.2.2.2.2.2.2.2.2.2.2.2.2.2.2.2.2.2.2.2.2.2.2.2.2.2.2.2.2.2.2.2.2.2.2.2.2.2.1 r45.2.2.2.2.2.2.2.2.2.2.2.2.2.2.2.2.2.2.2.2.2.2.2.2.2.2.2.2.2.2.2.2.2.2.2.2.2.2.2.2.2.2.2.2.2.2.2.2.2.1 r45.2.2.2.2.2.2.2.2.2.2.2.2.2.2.2.2.2.2.2.2.2.2.2.2.2.2.2.2.2.2.2.2.2.2.2.2.2.2.2.2.2.2.2.2.2.2.2.2.2.2.1 r45.2.2.2.2.2.2.2.2.2.2.2.2.2.2.2.2.2.2.2.2.2.2.2.2.2.2.2.2.2.2.2.2.2.2.2.2.2.2.2.2.2.2.2.2.2.2.2.2.2.2.2.1 r45.2.2.2.2.2.2.2.2.2.2.2.2.2.2.2.2.2.2.2.2.2.2.2.2.2.2.2.2.2.2.2.2.2.2.2.2.2.2.2.2.2.2.2.2.2.2.2.2.2.2.2.2.1 r45.2.2.2.2.2.2.2.2.2.2.2.2.2.2.2.2.2.2.2.2.2.2.2.2.2.2.2.2.2.2.2.2.2.2.2.2.2.2.2.2.2.2.2.2.2.2.2.2.2.2.2.2.2.1 r45.2.2.2.2.2.2.2.2.2.2.2.2.2.2.2.2.2.2.2.2.2.2.2.2.2.2.2.2.2.2.2.2.2.2.2.2.2.2.2.2.2.2.2.2.2.2.2.2.2.2.2.2.2.2.1 r45.2.2.2.2.2.2.2.2.2.2.2.2.2.2.2.2.2.2.2.2.2.2.2.2.2.2.2.2.2.2.2.2.2.2.2.2.2.2.2.2.2.2.2.2.2.2.2.2.2.2.2.2.2.2.2.1 r45.2.2.2.2.2.2.2.2.2.2.2.2.2.2.2.2.2.2.2.2.2.2.2.2.2.2.2.2.2.2.2.2.2.2.2.2.2.2.2.2.2.2.2.2.2.2.2.2.2.2.2.2.2.2.2.2.1 r45.2.2.2.2.2.2.2.2.2.2.2.2.2.2.2.2.2.2.2.2.2.2.2.2.2.2.2.2.2.2.2.2.2.2.2.2.2.2.2.2.2.2.2.2.2.2.2.2.2.2.2.2.2.2.2.2.2.1)) (
 some (.inr (x3,(x4,(x5,(x6,(x7,(x8,(x9,(x16,(x17,(x18,(x19,(x20,(x21,(x22,(x23,(x24,(x25,(x26,(x27,(x28,(x29,(x30,(x31,(x32,(x33,(x34,()))))))))))))))))))))))))))))
noncomputable def glazierlaw22_gone_i31_l1 (fl:Nat):Nat -> Int -> (List T6) -> Int -> Int -> Int -> Int -> T1 -> Int -> T7 -> Bool -> Int -> Int -> Int -> Int -> Int -> Int -> Int -> Int -> Int -> Int -> (List T3) -> T9 -> (List T5) -> (List T6) -> Int -> Int -> Option (((T1 × Int × Int × T7 × Bool × Int × Int × Int × Int × Int × Int × Int × Int × Int × Int × (List T3) × T9 × (List T5) × (List T6) × Int × Int × Unit) ⊕ ((List T6) × Int × Int × T1 × Int × T7 × Bool × Int × Int × Int × Int × Int × Int × Int × Int × Int × Int × (List T3) × T9 × (List T5) × (List T6) × Int × Int × Unit)))
 | 0,_,_,_,_,_,_,_,_,_,_,_,_,_,_,_,_,_,_,_,_,_,_,_,_,_,_=>none
 | n + 1,x0,x1,x2,x3,x4,x5,x6,x7,x8,x9,x10,x11,x12,x13,x14,x15,x16,x17,x18,x19,x20,x21,x22,x23,x24,x25=>
 bnd (F.lt x5 x4) fun v26=>
 bite v26 (
 obind (F.get x23 x0) fun q27=>
 bnd (F.bne q27.2.2.2.1 x9) fun v28=>
 bite v28 (
 bnd (F.add .i64 x5 1) fun v29=>
 glazierlaw22_gone_i31_l1 fl n x0 x1 x2 x3 x4 v29 x6 x7 x8 x9 x10 x11 x12 x13 x14 x15 x16 x17 x18 x19 x20 x21 x22 x23 x24 x25) (
 obind (F.get q27.2.2.2.2 x5) fun q30=>
 obind (frags_Maker__parts fl (x14,(x15,(x16,(x17,(x18,(x19,(x20,(x21,(x22,(x23,(x24,x25))))))))))) q30) fun q31=>
 bnd (F.len q31) fun v32=>
 obind (glazierlaw22_gone_i22_l1 fl fl q31 v32 0 x0 x1 x2 x3 x4 x5 x6 x5 q27.1 q27.2.1 q27.2.2.1 q27.2.2.2.1 q27.2.2.2.2 x7 x8 x9 x10 x11 x12 x13 x14 x15 x16 x17 x18 x19 x20 x21 x22 x23 x24 x25) fun q33=>
 osum q33 (fun s34=>
 some (.inl (s34.2.2.2.2.2.2.1,(s34.2.2.2.2.2.2.2.1,(s34.2.2.2.2.2.2.2.2.1,(s34.2.2.2.2.2.2.2.2.2.1,(s34.2.2.2.2.2.2.2.2.2.2.1,(s34.2.2.2.2.2.2.2.2.2.2.2.1,(s34.2.2.2.2.2.2.2.2.2.2.2.2.1,(s34.2.2.2.2.2.2.2.2.2.2.2.2.2.1,(s34.2.2.2.2.2.2.2.2.2.2.2.2.2.2.1,(s34.2.2.2.2.2.2.2.2.2.2.2.2.2.2.2.1,(s34.2.2.2.2.2.2.2.2.2.2.2.2.2.2.2.2.1,(s34.2.2.2.2.2.2.2.2.2.2.2.2.2.2.2.2.2.1,(s34.2.2.2.2.2.2.2.2.2.2.2.2.2.2.2.2.2.2.1,(s34.2.2.2.2.2.2.2.2.2.2.2.2.2.2.2.2.2.2.2.1,(s34.2.2.2.2.2.2.2.2.2.2.2.2.2.2.2.2.2.2.2.2.1,(s34.2.2.2.2.2.2.2.2.2.2.2.2.2.2.2.2.2.2.2.2.2.1,(s34.2.2.2.2.2.2.2.2.2.2.2.2.2.2.2.2.2.2.2.2.2.2.1,(s34.2.2.2.2.2.2.2.2.2.2.2.2.2.2.2.2.2.2.2.2.2.2.2.1,(s34.2.2.2.2.2.2.2.2.2.2.2.2.2.2.2.2.2.2.2.2.2.2.2.2.1,(s34.2.2.2.2.2.2.2.2.2.2.2.2.2.2.2.2.2.2.2.2.2.2.2.2.2.1,(s34.2.2.2.2.2.2.2.2.2.2.2.2.2.2.2.2.2.2.2.2.2.2.2.2.2.2.1,()))))))))))))))))))))))) (fun r35=>
 bnd (F.add .i64 r35.2.2.2.2.2.1 1) fun v36=>
 glazierlaw22_gone_i31_l1 fl n r35.1 r35.2.1 r35.2.2.1 r35.2.2.2.1 r35.2.2.2.2.1 v36 r35.2.2.2.2.2.2.1 r35.2.2.2.2.2.2.2.1 r35.2.2.2.2.2.2.2.2.1 r35.2.2.2.2.2.2.2.2.2.1 r35.2.2.2.2.2.2.2.2.2.2.1 r35.2.2.2.2.2.2.2.2.2.2.2.1 r35.2.2.2.2.2.2.2.2.2.2.2.2.1 r35.2.2.2.2.2.2.2.2.2.2.2.2.2.1 r35.2.2.2.2.2.2.2.2.2.2.2.2.2.2.1 r35.2.2.2.2.2.2.2.2.2.2.2.2.2.2.2.1 r35.2.2.2.2.2.2.2.2.2.2.2.2.2.2.2.2.1 r35.2.2.2.2.2.2.2.2.2.2.2.2.2.2.2.2.2.1 r35.2.2.2.2.2.2.2.2.2.2.2.2.2.2.2.2.2.2.1 r35.2.2.2.2.2.2.2.2.2.2.2.2.2.2.2.2.2.2.2.1 r35.2.2.2.2.2.2.2.2.2.2.2.2.2.2.2.2.2.2.2.2.1 r35.2.2.2.2.2.2.2.2.2.2.2.2.2.2.2.2.2.2.2.2.2.1 r35.2.2.2.2.2.2.2.2.2.2.2.2.2.2.2.2.2.2.2.2.2.2.1 r35.2.2.2.2.2.2.2.2.2.2.2.2.2.2.2.2.2.2.2.2.2.2.2.1 r35.2.2.2.2.2.2.2.2.2.2.2.2.2.2.2.2.2.2.2.2.2.2.2.2.1 r35.2.2.2.2.2.2.2.2.2.2.2.2.2.2.2.2.2.2.2.2.2.2.2.2.2.1))) (
 some (.inr (x1,(x2,(x3,(x6,(x7,(x8,(x9,(x10,(x11,(x12,(x13,(x14,(x15,(x16,(x17,(x18,(x19,(x20,(x21,(x22,(x23,(x24,(x25,())))))))))))))))))))))))))
noncomputable def glazierlaw22_gone_i31_l2 (fl:Nat):Nat -> (List T6) -> Int -> Int -> T1 -> Int -> T7 -> Bool -> Int -> Int -> Int -> Int -> Int -> Int -> Int -> Int -> Int -> Int -> (List T3) -> T9 -> (List T5) -> (List T6) -> Int -> Int -> Option (((T1 × Int × Int × T7 × Bool × Int × Int × Int × Int × Int × Int × Int × Int × Int × Int × (List T3) × T9 × (List T5) × (List T6) × Int × Int × Unit) ⊕ (T1 × Int × T7 × Bool × Int × Int × Int × Int × Int × Int × Int × Int × Int × Int × (List T3) × T9 × (List T5) × (List T6) × Int × Int × Unit)))
 | 0,_,_,_,_,_,_,_,_,_,_,_,_,_,_,_,_,_,_,_,_,_,_,_=>none
 | n + 1,x0,x1,x2,x3,x4,x5,x6,x7,x8,x9,x10,x11,x12,x13,x14,x15,x16,x17,x18,x19,x20,x21,x22=>
 bnd (F.lt x2 x1) fun v23=>
 bite v23 (
 obind (F.get x0 x2) fun q24=>
 bnd (F.len q24.2.2.2.2) fun v25=>
 obind (glazierlaw22_gone_i31_l1 fl fl x2 x0 x1 x2 v25 0 x3 x4 x5 x6 x7 x8 x9 x10 x11 x12 x13 x14 x15 x16 x17 x18 x19 x20 x21 x22) fun q26=>
 osum q26 (fun s27=>
 some (.inl (s27.1,(s27.2.1,(s27.2.2.1,(s27.2.2.2.1,(s27.2.2.2.2.1,(s27.2.2.2.2.2.1,(s27.2.2.2.2.2.2.1,(s27.2.2.2.2.2.2.2.1,(s27.2.2.2.2.2.2.2.2.1,(s27.2.2.2.2.2.2.2.2.2.1,(s27.2.2.2.2.2.2.2.2.2.2.1,(s27.2.2.2.2.2.2.2.2.2.2.2.1,(s27.2.2.2.2.2.2.2.2.2.2.2.2.1,(s27.2.2.2.2.2.2.2.2.2.2.2.2.2.1,(s27.2.2.2.2.2.2.2.2.2.2.2.2.2.2.1,(s27.2.2.2.2.2.2.2.2.2.2.2.2.2.2.2.1,(s27.2.2.2.2.2.2.2.2.2.2.2.2.2.2.2.2.1,(s27.2.2.2.2.2.2.2.2.2.2.2.2.2.2.2.2.2.1,(s27.2.2.2.2.2.2.2.2.2.2.2.2.2.2.2.2.2.2.1,(s27.2.2.2.2.2.2.2.2.2.2.2.2.2.2.2.2.2.2.2.1,(s27.2.2.2.2.2.2.2.2.2.2.2.2.2.2.2.2.2.2.2.2.1,()))))))))))))))))))))))) (fun r28=>
 bnd (F.add .i64 r28.2.2.1 1) fun v29=>
 glazierlaw22_gone_i31_l2 fl n r28.1 r28.2.1 v29 r28.2.2.2.1 r28.2.2.2.2.1 r28.2.2.2.2.2.1 r28.2.2.2.2.2.2.1 r28.2.2.2.2.2.2.2.1 r28.2.2.2.2.2.2.2.2.1 r28.2.2.2.2.2.2.2.2.2.1 r28.2.2.2.2.2.2.2.2.2.2.1 r28.2.2.2.2.2.2.2.2.2.2.2.1 r28.2.2.2.2.2.2.2.2.2.2.2.2.1 r28.2.2.2.2.2.2.2.2.2.2.2.2.2.1 r28.2.2.2.2.2.2.2.2.2.2.2.2.2.2.1 r28.2.2.2.2.2.2.2.2.2.2.2.2.2.2.2.1 r28.2.2.2.2.2.2.2.2.2.2.2.2.2.2.2.2.1 r28.2.2.2.2.2.2.2.2.2.2.2.2.2.2.2.2.2.1 r28.2.2.2.2.2.2.2.2.2.2.2.2.2.2.2.2.2.2.1 r28.2.2.2.2.2.2.2.2.2.2.2.2.2.2.2.2.2.2.2.1 r28.2.2.2.2.2.2.2.2.2.2.2.2.2.2.2.2.2.2.2.2.1 r28.2.2.2.2.2.2.2.2.2.2.2.2.2.2.2.2.2.2.2.2.2.1 r28.2.2.2.2.2.2.2.2.2.2.2.2.2.2.2.2.2.2.2.2.2.2.1)) (
 some (.inr (x3,(x4,(x5,(x6,(x7,(x8,(x9,(x10,(x11,(x12,(x13,(x14,(x15,(x16,(x17,(x18,(x19,(x20,(x21,(x22,()))))))))))))))))))))))
noncomputable def glazierlaw22_gone (fl:Nat) (x0:(Int × Int × T2 × (List T3) × T9 × (List T5) × List T6) × Int × Int) (x1:T2) (x2:Bool) (x3:Int):Option ((T7 × Bool) × ((Int × Int × T2 × (List T3) × T9 × (List T5) × List T6) × Int × Int)):=
 obind (scene_Each x0.1) fun q3=>
 bnd (F.len q3.2.2.2.2.2.2.2.2.2) fun v4=>
 obind (glazierlaw22_gone_i31_l2 fl fl q3.2.2.2.2.2.2.2.2.2 v4 0 q3 x3 [] x2 x1.1 x1.2.1 x1.2.2.1 x1.2.2.2 x0.1.1 x0.1.2.1 x0.1.2.2.1.1 x0.1.2.2.1.2.1 x0.1.2.2.1.2.2.1 x0.1.2.2.1.2.2.2 x0.1.2.2.2.1 x0.1.2.2.2.2.1 x0.1.2.2.2.2.2.1 x0.1.2.2.2.2.2.2 x0.2.1 x0.2.2) fun q5=>
 osum q5 (fun s6=>
 bite (F.eq s6.2.1 0) (
 some ((s6.2.2.2.1,true),((s6.2.2.2.2.2.2.2.2.2.1,(s6.2.2.2.2.2.2.2.2.2.2.1,((s6.2.2.2.2.2.2.2.2.2.2.2.1,(s6.2.2.2.2.2.2.2.2.2.2.2.2.1,(s6.2.2.2.2.2.2.2.2.2.2.2.2.2.1,s6.2.2.2.2.2.2.2.2.2.2.2.2.2.2.1))),(s6.2.2.2.2.2.2.2.2.2.2.2.2.2.2.2.1,(s6.2.2.2.2.2.2.2.2.2.2.2.2.2.2.2.2.1,(s6.2.2.2.2.2.2.2.2.2.2.2.2.2.2.2.2.2.1,s6.2.2.2.2.2.2.2.2.2.2.2.2.2.2.2.2.2.2.1)))))),(s6.2.2.2.2.2.2.2.2.2.2.2.2.2.2.2.2.2.2.2.1,s6.2.2.2.2.2.2.2.2.2.2.2.2.2.2.2.2.2.2.2.2.1)))) (
 bite (F.eq s6.2.1 2) (
 some (([],false),((s6.2.2.2.2.2.2.2.2.2.1,(s6.2.2.2.2.2.2.2.2.2.2.1,((s6.2.2.2.2.2.2.2.2.2.2.2.1,(s6.2.2.2.2.2.2.2.2.2.2.2.2.1,(s6.2.2.2.2.2.2.2.2.2.2.2.2.2.1,s6.2.2.2.2.2.2.2.2.2.2.2.2.2.2.1))),(s6.2.2.2.2.2.2.2.2.2.2.2.2.2.2.2.1,(s6.2.2.2.2.2.2.2.2.2.2.2.2.2.2.2.2.1,(s6.2.2.2.2.2.2.2.2.2.2.2.2.2.2.2.2.2.1,s6.2.2.2.2.2.2.2.2.2.2.2.2.2.2.2.2.2.2.1)))))),(s6.2.2.2.2.2.2.2.2.2.2.2.2.2.2.2.2.2.2.2.1,s6.2.2.2.2.2.2.2.2.2.2.2.2.2.2.2.2.2.2.2.2.1)))) (
 bgd (F.eq s6.2.1 3) (
 some ((s6.2.2.2.1,true),((s6.2.2.2.2.2.2.2.2.2.1,(s6.2.2.2.2.2.2.2.2.2.2.1,((s6.2.2.2.2.2.2.2.2.2.2.2.1,(s6.2.2.2.2.2.2.2.2.2.2.2.2.1,(s6.2.2.2.2.2.2.2.2.2.2.2.2.2.1,s6.2.2.2.2.2.2.2.2.2.2.2.2.2.2.1))),(s6.2.2.2.2.2.2.2.2.2.2.2.2.2.2.2.1,(s6.2.2.2.2.2.2.2.2.2.2.2.2.2.2.2.2.1,(s6.2.2.2.2.2.2.2.2.2.2.2.2.2.2.2.2.2.1,s6.2.2.2.2.2.2.2.2.2.2.2.2.2.2.2.2.2.2.1)))))),(s6.2.2.2.2.2.2.2.2.2.2.2.2.2.2.2.2.2.2.2.1,s6.2.2.2.2.2.2.2.2.2.2.2.2.2.2.2.2.2.2.2.2.1))))))) (fun r7=>
 some ((r7.2.2.1,true),((r7.2.2.2.2.2.2.2.2.1,(r7.2.2.2.2.2.2.2.2.2.1,((r7.2.2.2.2.2.2.2.2.2.2.1,(r7.2.2.2.2.2.2.2.2.2.2.2.1,(r7.2.2.2.2.2.2.2.2.2.2.2.2.1,r7.2.2.2.2.2.2.2.2.2.2.2.2.2.1))),(r7.2.2.2.2.2.2.2.2.2.2.2.2.2.2.1,(r7.2.2.2.2.2.2.2.2.2.2.2.2.2.2.2.1,(r7.2.2.2.2.2.2.2.2.2.2.2.2.2.2.2.2.1,r7.2.2.2.2.2.2.2.2.2.2.2.2.2.2.2.2.2.1)))))),(r7.2.2.2.2.2.2.2.2.2.2.2.2.2.2.2.2.2.2.1,r7.2.2.2.2.2.2.2.2.2.2.2.2.2.2.2.2.2.2.2.1))))
noncomputable def frags_Maker__Made (x0:Int × Int × Int × Int × Int × Int × (List T3) × T9 × (List T5) × (List T6) × Int × Int):Option (Int):=
 some x0.2.2.2.2.2.2.2.2.2.2.1
noncomputable def frags_Maker__Steps (x0:Int × Int × Int × Int × Int × Int × (List T3) × T9 × (List T5) × (List T6) × Int × Int):Option (Int):=
 some x0.2.2.2.2.2.2.2.2.2.2.2
noncomputable def glazierlaw22_shown (fl:Nat) :Option (Bool):=
 obind glazierlaw22_plain fun q0=>
 obind (glazierlaw22_gone fl (q0,(0,0)) (0,(0,(2,2))) false 100) fun q1=>
 bite q1.1.2 (
 bnd (F.len q1.1.1) fun v2=>
 bnd (F.eq v2 4) fun v3=>
 bite v3 (
 obind (F.get q1.1.1 0) fun q4=>
 bnd (F.eq q4.2.2.1 15) fun v5=>
 bite v5 (
 obind (F.get q1.1.1 3) fun q6=>
 bnd (F.eq q6.1 1) fun v7=>
 bite v7 (
 obind (F.get q1.1.1 3) fun q8=>
 bnd (F.eq q8.2.1 1) fun v9=>
 bite v9 (
 obind (frags_Maker__Made (q1.2.1.1,(q1.2.1.2.1,(q1.2.1.2.2.1.1,(q1.2.1.2.2.1.2.1,(q1.2.1.2.2.1.2.2.1,(q1.2.1.2.2.1.2.2.2,(q1.2.1.2.2.2.1,(q1.2.1.2.2.2.2.1,(q1.2.1.2.2.2.2.2.1,(q1.2.1.2.2.2.2.2.2,q1.2.2))))))))))) fun q10=>
 bnd (F.eq q10 4) fun v11=>
 bite v11 (
 obind (frags_Maker__Steps (q1.2.1.1,(q1.2.1.2.1,(q1.2.1.2.2.1.1,(q1.2.1.2.2.1.2.1,(q1.2.1.2.2.1.2.2.1,(q1.2.1.2.2.1.2.2.2,(q1.2.1.2.2.2.1,(q1.2.1.2.2.2.2.1,(q1.2.1.2.2.2.2.2.1,(q1.2.1.2.2.2.2.2.2,q1.2.2))))))))))) fun q12=>
 bnd (F.eq q12 4) fun v13=>
 some v13) (
 some false)) (
 some false)) (
 some false)) (
 some false)) (
 some false)) (
 some false)
noncomputable def glazierlaw22_FragsMasks_l1 (fl:Nat):Nat -> Int -> Int -> Int -> Int -> T7 -> Int -> Int -> Int -> Int -> Int -> Int -> Int -> Int -> Int -> Int -> Int -> Int -> Int -> Int -> Int -> Int -> Int -> Int -> Int -> Int -> Int -> Int -> Int -> Int -> Int -> Int -> Int -> Int -> Int -> Int -> Int -> Int -> Int -> Int -> Int -> Int -> Int -> Int -> Int -> Int -> Int -> Int -> Int -> Int -> Int -> Int -> Int -> Int -> Int -> Int -> Int -> Int -> Int -> Int -> Int -> Int -> Int -> Int -> Int -> Int -> Int -> Int -> Int -> Int -> Int -> Int -> Int -> Int -> Int -> Int -> Int -> Int -> Int -> Int -> Int -> Int -> Int -> Int -> Int -> Int -> Int -> Int -> Int -> Int -> Int -> Int -> Int -> Int -> Int -> Int -> Int -> Int -> Int -> Int -> Int -> Int -> Int -> Int -> Int -> Int -> Int -> Int -> Int -> Int -> Int -> Int -> Int -> Int -> Int -> Int -> Int -> Int -> Int -> Int -> Int -> Int -> Int -> Int -> Int -> Int -> Int -> Int -> Int -> Int -> Int -> Int -> Int -> Int -> Int -> Int -> Int -> Int -> Int -> Int -> Int -> Int -> Int -> Int -> Int -> Int -> Int -> Int -> Int -> Int -> Int -> Option (((Unit) ⊕ (Int × Int × Int × Int × Int × Int × Int × Int × Int × Int × Int × Int × Int × Int × Int × Int × Int × Int × Int × Int × Int × Int × Int × Int × Int × Int × Int × Int × Int × Int × Int × Int × Int × Int × Int × Int × Int × Int × Int × Int × Int × Int × Int × Int × Int × Int × Int × Int × Int × Int × Int × Int × Int × Int × Int × Int × Int × Int × Int × Int × Int × Int × Int × Int × Int × Int × Int × Int × Int × Int × Int × Int × Int × Int × Int × Int × Int × Int × Int × Int × Int × Int × Int × Int × Int × Int × Int × Int × Int × Int × Int × Int × Int × Int × Int × Int × Int × Int × Int × Int × Int × Int × Int × Int × Int × Int × Int × Int × Int × Int × Int × Int × Int × Int × Int × Int × Int × Int × Int × Int × Int × Int × Int × Int × Int × Int × Int × Int × Int × Int × Int × Int × Int × Int × Int × Int × Int × Int × Int × Int × Int × Int × Int × Int × Int × Int × Int × Int × Unit)))
 | 0,_,_,_,_,_,_,_,_,_,_,_,_,_,_,_,_,_,_,_,_,_,_,_,_,_,_,_,_,_,_,_,_,_,_,_,_,_,_,_,_,_,_,_,_,_,_,_,_,_,_,_,_,_,_,_,_,_,_,_,_,_,_,_,_,_,_,_,_,_,_,_,_,_,_,_,_,_,_,_,_,_,_,_,_,_,_,_,_,_,_,_,_,_,_,_,_,_,_,_,_,_,_,_,_,_,_,_,_,_,_,_,_,_,_,_,_,_,_,_,_,_,_,_,_,_,_,_,_,_,_,_,_,_,_,_,_,_,_,_,_,_,_,_,_,_,_,_,_,_,_=>none
 | n + 1,x0,x1,x2,x3,x4,x5,x6,x7,x8,x9,x10,x11,x12,x13,x14,x15,x16,x17,x18,x19,x20,x21,x22,x23,x24,x25,x26,x27,x28,x29,x30,x31,x32,x33,x34,x35,x36,x37,x38,x39,x40,x41,x42,x43,x44,x45,x46,x47,x48,x49,x50,x51,x52,x53,x54,x55,x56,x57,x58,x59,x60,x61,x62,x63,x64,x65,x66,x67,x68,x69,x70,x71,x72,x73,x74,x75,x76,x77,x78,x79,x80,x81,x82,x83,x84,x85,x86,x87,x88,x89,x90,x91,x92,x93,x94,x95,x96,x97,x98,x99,x100,x101,x102,x103,x104,x105,x106,x107,x108,x109,x110,x111,x112,x113,x114,x115,x116,x117,x118,x119,x120,x121,x122,x123,x124,x125,x126,x127,x128,x129,x130,x131,x132,x133,x134,x135,x136,x137,x138,x139,x140,x141,x142,x143,x144,x145,x146,x147,x148,x149=>
 bnd (F.len x4) fun v150=>
 bnd (F.lt x5 v150) fun v151=>
 bite v151 (
 obind (F.get x4 x5) fun q152=>
 bnd (F.mul .i64 q152.2.1 12) fun v153=>
 obind (F.get x4 x5) fun q154=>
 bnd (F.add .i64 v153 q154.1) fun v155=>
 bgd (F.within v155 144) (
 obind (F.get [x6,x7,x8,x9,x10,x11,x12,x13,x14,x15,x16,x17,x18,x19,x20,x21,x22,x23,x24,x25,x26,x27,x28,x29,x30,x31,x32,x33,x34,x35,x36,x37,x38,x39,x40,x41,x42,x43,x44,x45,x46,x47,x48,x49,x50,x51,x52,x53,x54,x55,x56,x57,x58,x59,x60,x61,x62,x63,x64,x65,x66,x67,x68,x69,x70,x71,x72,x73,x74,x75,x76,x77,x78,x79,x80,x81,x82,x83,x84,x85,x86,x87,x88,x89,x90,x91,x92,x93,x94,x95,x96,x97,x98,x99,x100,x101,x102,x103,x104,x105,x106,x107,x108,x109,x110,x111,x112,x113,x114,x115,x116,x117,x118,x119,x120,x121,x122,x123,x124,x125,x126,x127,x128,x129,x130,x131,x132,x133,x134,x135,x136,x137,x138,x139,x140,x141,x142,x143,x144,x145,x146,x147,x148,x149] v155) fun q156=>
 obind (F.get x4 x5) fun q157=>
 bnd (F.and .u8 q156 q157.2.2.1) fun v158=>
 bnd (F.ne v158 0) fun v159=>
 bite v159 (
 some (.inl ())) (
 obind (F.get x4 x5) fun q160=>
 bnd (F.ne q160.2.2.2.1.1 32768) fun v161=>
 bite v161 (
 some (.inl ())) (
 bgd (F.within v155 144) (
 obind (F.get [x6,x7,x8,x9,x10,x11,x12,x13,x14,x15,x16,x17,x18,x19,x20,x21,x22,x23,x24,x25,x26,x27,x28,x29,x30,x31,x32,x33,x34,x35,x36,x37,x38,x39,x40,x41,x42,x43,x44,x45,x46,x47,x48,x49,x50,x51,x52,x53,x54,x55,x56,x57,x58,x59,x60,x61,x62,x63,x64,x65,x66,x67,x68,x69,x70,x71,x72,x73,x74,x75,x76,x77,x78,x79,x80,x81,x82,x83,x84,x85,x86,x87,x88,x89,x90,x91,x92,x93,x94,x95,x96,x97,x98,x99,x100,x101,x102,x103,x104,x105,x106,x107,x108,x109,x110,x111,x112,x113,x114,x115,x116,x117,x118,x119,x120,x121,x122,x123,x124,x125,x126,x127,x128,x129,x130,x131,x132,x133,x134,x135,x136,x137,x138,x139,x140,x141,x142,x143,x144,x145,x146,x147,x148,x149] v155) fun q162=>
 obind (F.get x4 x5) fun q163=>
 bnd (F.or .u8 q162 q163.2.2.1) fun v164=>
 bgd (F.within v155 144) (
 bnd (F.add .i64 x5 1) fun v165=>
 glazierlaw22_FragsMasks_l1 fl n x0 x1 x2 x3 x4 v165 (F.pick v155 0 v164 x6) (F.pick v155 1 v164 x7) (F.pick v155 2 v164 x8) (F.pick v155 3 v164 x9) (F.pick v155 4 v164 x10) (F.pick v155 5 v164 x11) (F.pick v155 6 v164 x12) (F.pick v155 7 v164 x13) (F.pick v155 8 v164 x14) (F.pick v155 9 v164 x15) (F.pick v155 10 v164 x16) (F.pick v155 11 v164 x17) (F.pick v155 12 v164 x18) (F.pick v155 13 v164 x19) (F.pick v155 14 v164 x20) (F.pick v155 15 v164 x21) (F.pick v155 16 v164 x22) (F.pick v155 17 v164 x23) (F.pick v155 18 v164 x24) (F.pick v155 19 v164 x25) (F.pick v155 20 v164 x26) (F.pick v155 21 v164 x27) (F.pick v155 22 v164 x28) (F.pick v155 23 v164 x29) (F.pick v155 24 v164 x30) (F.pick v155 25 v164 x31) (F.pick v155 26 v164 x32) (F.pick v155 27 v164 x33) (F.pick v155 28 v164 x34) (F.pick v155 29 v164 x35) (F.pick v155 30 v164 x36) (F.pick v155 31 v164 x37) (F.pick v155 32 v164 x38) (F.pick v155 33 v164 x39) (F.pick v155 34 v164 x40) (F.pick v155 35 v164 x41) (F.pick v155 36 v164 x42) (F.pick v155 37 v164 x43) (F.pick v155 38 v164 x44) (F.pick v155 39 v164 x45) (F.pick v155 40 v164 x46) (F.pick v155 41 v164 x47) (F.pick v155 42 v164 x48) (F.pick v155 43 v164 x49) (F.pick v155 44 v164 x50) (F.pick v155 45 v164 x51) (F.pick v155 46 v164 x52) (F.pick v155 47 v164 x53) (F.pick v155 48 v164 x54) (F.pick v155 49 v164 x55) (F.pick v155 50 v164 x56) (F.pick v155 51 v164 x57) (F.pick v155 52 v164 x58) (F.pick v155 53 v164 x59) (F.pick v155 54 v164 x60) (F.pick v155 55 v164 x61) (F.pick v155 56 v164 x62) (F.pick v155 57 v164 x63) (F.pick v155 58 v164 x64) (F.pick v155 59 v164 x65) (F.pick v155 60 v164 x66) (F.pick v155 61 v164 x67) (F.pick v155 62 v164 x68) (F.pick v155 63 v164 x69) (F.pick v155 64 v164 x70) (F.pick v155 65 v164 x71) (F.pick v155 66 v164 x72) (F.pick v155 67 v164 x73) (F.pick v155 68 v164 x74) (F.pick v155 69 v164 x75) (F.pick v155 70 v164 x76) (F.pick v155 71 v164 x77) (F.pick v155 72 v164 x78) (F.pick v155 73 v164 x79) (F.pick v155 74 v164 x80) (F.pick v155 75 v164 x81) (F.pick v155 76 v164 x82) (F.pick v155 77 v164 x83) (F.pick v155 78 v164 x84) (F.pick v155 79 v164 x85) (F.pick v155 80 v164 x86) (F.pick v155 81 v164 x87) (F.pick v155 82 v164 x88) (F.pick v155 83 v164 x89) (F.pick v155 84 v164 x90) (F.pick v155 85 v164 x91) (F.pick v155 86 v164 x92) (F.pick v155 87 v164 x93) (F.pick v155 88 v164 x94) (F.pick v155 89 v164 x95) (F.pick v155 90 v164 x96) (F.pick v155 91 v164 x97) (F.pick v155 92 v164 x98) (F.pick v155 93 v164 x99) (F.pick v155 94 v164 x100) (F.pick v155 95 v164 x101) (F.pick v155 96 v164 x102) (F.pick v155 97 v164 x103) (F.pick v155 98 v164 x104) (F.pick v155 99 v164 x105) (F.pick v155 100 v164 x106) (F.pick v155 101 v164 x107) (F.pick v155 102 v164 x108) (F.pick v155 103 v164 x109) (F.pick v155 104 v164 x110) (F.pick v155 105 v164 x111) (F.pick v155 106 v164 x112) (F.pick v155 107 v164 x113) (F.pick v155 108 v164 x114) (F.pick v155 109 v164 x115) (F.pick v155 110 v164 x116) (F.pick v155 111 v164 x117) (F.pick v155 112 v164 x118) (F.pick v155 113 v164 x119) (F.pick v155 114 v164 x120) (F.pick v155 115 v164 x121) (F.pick v155 116 v164 x122) (F.pick v155 117 v164 x123) (F.pick v155 118 v164 x124) (F.pick v155 119 v164 x125) (F.pick v155 120 v164 x126) (F.pick v155 121 v164 x127) (F.pick v155 122 v164 x128) (F.pick v155 123 v164 x129) (F.pick v155 124 v164 x130) (F.pick v155 125 v164 x131) (F.pick v155 126 v164 x132) (F.pick v155 127 v164 x133) (F.pick v155 128 v164 x134) (F.pick v155 129 v164 x135) (F.pick v155 130 v164 x136) (F.pick v155 131 v164 x137) (F.pick v155 132 v164 x138) (F.pick v155 133 v164 x139) (F.pick v155 134 v164 x140) (F.pick v155 135 v164 x141) (F.pick v155 136 v164 x142) (F.pick v155 137 v164 x143) (F.pick v155 138 v164 x144) (F.pick v155 139 v164 x145) (F.pick v155 140 v164 x146) (F.pick v155 141 v164 x147) (F.pick v155 142 v164 x148) (F.pick v155 143 v164 x149))))))) (
 some (.inr (x0,(x1,(x2,(x3,(x6,(x7,(x8,(x9,(x10,(x11,(x12,(x13,(x14,(x15,(x16,(x17,(x18,(x19,(x20,(x21,(x22,(x23,(x24,(x25,(x26,(x27,(x28,(x29,(x30,(x31,(x32,(x33,(x34,(x35,(x36,(x37,(x38,(x39,(x40,(x41,(x42,(x43,(x44,(x45,(x46,(x47,(x48,(x49,(x50,(x51,(x52,(x53,(x54,(x55,(x56,(x57,(x58,(x59,(x60,(x61,(x62,(x63,(x64,(x65,(x66,(x67,(x68,(x69,(x70,(x71,(x72,(x73,(x74,(x75,(x76,(x77,(x78,(x79,(x80,(x81,(x82,(x83,(x84,(x85,(x86,(x87,(x88,(x89,(x90,(x91,(x92,(x93,(x94,(x95,(x96,(x97,(x98,(x99,(x100,(x101,(x102,(x103,(x104,(x105,(x106,(x107,(x108,(x109,(x110,(x111,(x112,(x113,(x114,(x115,(x116,(x117,(x118,(x119,(x120,(x121,(x122,(x123,(x124,(x125,(x126,(x127,(x128,(x129,(x130,(x131,(x132,(x133,(x134,(x135,(x136,(x137,(x138,(x139,(x140,(x141,(x142,(x143,(x144,(x145,(x146,(x147,(x148,(x149,()))))))))))))))))))))))))))))))))))))))))))))))))))))))))))))))))))))))))))))))))))))))))))))))))))))))))))))))))))))))))))))))))))))))))))))))))))))))
noncomputable def glazierlaw22_FragsMasks_l2 (fl:Nat):Nat -> Int -> Int -> Int -> Int -> Int -> Int -> Int -> Int -> Int -> Int -> Int -> Int -> Int -> Int -> Int -> Int -> Int -> Int -> Int -> Int -> Int -> Int -> Int -> Int -> Int -> Int -> Int -> Int -> Int -> Int -> Int -> Int -> Int -> Int -> Int -> Int -> Int -> Int -> Int -> Int -> Int -> Int -> Int -> Int -> Int -> Int -> Int -> Int -> Int -> Int -> Int -> Int -> Int -> Int -> Int -> Int -> Int -> Int -> Int -> Int -> Int -> Int -> Int -> Int -> Int -> Int -> Int -> Int -> Int -> Int -> Int -> Int -> Int -> Int -> Int -> Int -> Int -> Int -> Int -> Int -> Int -> Int -> Int -> Int -> Int -> Int -> Int -> Int -> Int -> Int -> Int -> Int -> Int -> Int -> Int -> Int -> Int -> Int -> Int -> Int -> Int -> Int -> Int -> Int -> Int -> Int -> Int -> Int -> Int -> Int -> Int -> Int -> Int -> Int -> Int -> Int -> Int -> Int -> Int -> Int -> Int -> Int -> Int -> Int -> Int -> Int -> Int -> Int -> Int -> Int -> Int -> Int -> Int -> Int -> Int -> Int -> Int -> Int -> Int -> Int -> Int -> Int -> Int -> Int -> Int -> Int -> Int -> Int -> Int -> Int -> Option (((Unit) ⊕ (Unit)))
 | 0,_,_,_,_,_,_,_,_,_,_,_,_,_,_,_,_,_,_,_,_,_,_,_,_,_,_,_,_,_,_,_,_,_,_,_,_,_,_,_,_,_,_,_,_,_,_,_,_,_,_,_,_,_,_,_,_,_,_,_,_,_,_,_,_,_,_,_,_,_,_,_,_,_,_,_,_,_,_,_,_,_,_,_,_,_,_,_,_,_,_,_,_,_,_,_,_,_,_,_,_,_,_,_,_,_,_,_,_,_,_,_,_,_,_,_,_,_,_,_,_,_,_,_,_,_,_,_,_,_,_,_,_,_,_,_,_,_,_,_,_,_,_,_,_,_,_,_,_,_,_=>none
 | n + 1,x0,x1,x2,x3,x4,x5,x6,x7,x8,x9,x10,x11,x12,x13,x14,x15,x16,x17,x18,x19,x20,x21,x22,x23,x24,x25,x26,x27,x28,x29,x30,x31,x32,x33,x34,x35,x36,x37,x38,x39,x40,x41,x42,x43,x44,x45,x46,x47,x48,x49,x50,x51,x52,x53,x54,x55,x56,x57,x58,x59,x60,x61,x62,x63,x64,x65,x66,x67,x68,x69,x70,x71,x72,x73,x74,x75,x76,x77,x78,x79,x80,x81,x82,x83,x84,x85,x86,x87,x88,x89,x90,x91,x92,x93,x94,x95,x96,x97,x98,x99,x100,x101,x102,x103,x104,x105,x106,x107,x108,x109,x110,x111,x112,x113,x114,x115,x116,x117,x118,x119,x120,x121,x122,x123,x124,x125,x126,x127,x128,x129,x130,x131,x132,x133,x134,x135,x136,x137,x138,x139,x140,x141,x142,x143,x144,x145,x146,x147,x148,x149=>
 bnd (F.mul .i64 x0 x0) fun v150=>
 bnd (F.lt x5 v150) fun v151=>
 bite v151 (
 bgd (F.nonzero x0) (
 bnd (F.rem x5 x0) fun v152=>
 bgd (F.nonzero x0) (
 bnd (F.quo .i64 x5 x0) fun v153=>
 bnd (F.mul .i64 16 v152) fun v154=>
 bnd (F.gt v154 x1) fun v155=>
 bite v155 (
 bnd (F.mul .i64 16 v152) fun v156=>
 bnd (F.add .i64 v156 15) fun v157=>
 bnd (F.sub .i64 x2 1) fun v158=>
 bnd (F.lt v157 v158) fun v159=>
 bite v159 (
 bnd (F.mul .i64 16 v153) fun v160=>
 bnd (F.gt v160 x3) fun v161=>
 bite v161 (
 bnd (F.mul .i64 16 v153) fun v162=>
 bnd (F.add .i64 v162 15) fun v163=>
 bnd (F.sub .i64 x4 1) fun v164=>
 bnd (F.lt v163 v164) fun v165=>
 bnd (F.mul .i64 16 v152) fun v166=>
 bnd (F.add .i64 v166 15) fun v167=>
 bnd (F.sub .i64 x1 1) fun v168=>
 bnd (F.lt v167 v168) fun v169=>
 bite v169 (
 bite v165 (
 bnd (F.mul .i64 v153 12) fun v170=>
 bnd (F.add .i64 v170 v152) fun v171=>
 bgd (F.within v171 144) (
 obind (F.get [x6,x7,x8,x9,x10,x11,x12,x13,x14,x15,x16,x17,x18,x19,x20,x21,x22,x23,x24,x25,x26,x27,x28,x29,x30,x31,x32,x33,x34,x35,x36,x37,x38,x39,x40,x41,x42,x43,x44,x45,x46,x47,x48,x49,x50,x51,x52,x53,x54,x55,x56,x57,x58,x59,x60,x61,x62,x63,x64,x65,x66,x67,x68,x69,x70,x71,x72,x73,x74,x75,x76,x77,x78,x79,x80,x81,x82,x83,x84,x85,x86,x87,x88,x89,x90,x91,x92,x93,x94,x95,x96,x97,x98,x99,x100,x101,x102,x103,x104,x105,x106,x107,x108,x109,x110,x111,x112,x113,x114,x115,x116,x117,x118,x119,x120,x121,x122,x123,x124,x125,x126,x127,x128,x129,x130,x131,x132,x133,x134,x135,x136,x137,x138,x139,x140,x141,x142,x143,x144,x145,x146,x147,x148,x149] v171) fun q172=>
 bnd (F.ne q172 15) fun v173=>
 bite v173 (
 some (.inl ())) (
 bnd (F.mul .i64 v153 12) fun v174=>
 bnd (F.add .i64 v174 v152) fun v175=>
 bgd (F.within v175 144) (
 obind (F.get [x6,x7,x8,x9,x10,x11,x12,x13,x14,x15,x16,x17,x18,x19,x20,x21,x22,x23,x24,x25,x26,x27,x28,x29,x30,x31,x32,x33,x34,x35,x36,x37,x38,x39,x40,x41,x42,x43,x44,x45,x46,x47,x48,x49,x50,x51,x52,x53,x54,x55,x56,x57,x58,x59,x60,x61,x62,x63,x64,x65,x66,x67,x68,x69,x70,x71,x72,x73,x74,x75,x76,x77,x78,x79,x80,x81,x82,x83,x84,x85,x86,x87,x88,x89,x90,x91,x92,x93,x94,x95,x96,x97,x98,x99,x100,x101,x102,x103,x104,x105,x106,x107,x108,x109,x110,x111,x112,x113,x114,x115,x116,x117,x118,x119,x120,x121,x122,x123,x124,x125,x126,x127,x128,x129,x130,x131,x132,x133,x134,x135,x136,x137,x138,x139,x140,x141,x142,x143,x144,x145,x146,x147,x148,x149] v175) fun q176=>
 bnd (F.ne q176 0) fun v177=>
 bite v177 (
 some (.inl ())) (
 bnd (F.add .i64 x5 1) fun v178=>
 glazierlaw22_FragsMasks_l2 fl n x0 x1 x2 x3 x4 v178 x6 x7 x8 x9 x10 x11 x12 x13 x14 x15 x16 x17 x18 x19 x20 x21 x22 x23 x24 x25 x26 x27 x28 x29 x30 x31 x32 x33 x34 x35 x36 x37 x38 x39 x40 x41 x42 x43 x44 x45 x46 x47 x48 x49 x50 x51 x52 x53 x54 x55 x56 x57 x58 x59 x60 x61 x62 x63 x64 x65 x66 x67 x68 x69 x70 x71 x72 x73 x74 x75 x76 x77 x78 x79 x80 x81 x82 x83 x84 x85 x86 x87 x88 x89 x90 x91 x92 x93 x94 x95 x96 x97 x98 x99 x100 x101 x102 x103 x104 x105 x106 x107 x108 x109 x110 x111 x112 x113 x114 x115 x116 x117 x118 x119 x120 x121 x122 x123 x124 x125 x126 x127 x128 x129 x130 x131 x132 x133 x134 x135 x136 x137 x138 x139 x140 x141 x142 x143 x144 x145 x146 x147 x148 x149))))) (
 bnd (F.mul .i64 v153 12) fun v179=>
 bnd (F.add .i64 v179 v152) fun v180=>
 bgd (F.within v180 144) (
 obind (F.get [x6,x7,x8,x9,x10,x11,x12,x13,x14,x15,x16,x17,x18,x19,x20,x21,x22,x23,x24,x25,x26,x27,x28,x29,x30,x31,x32,x33,x34,x35,x36,x37,x38,x39,x40,x41,x42,x43,x44,x45,x46,x47,x48,x49,x50,x51,x52,x53,x54,x55,x56,x57,x58,x59,x60,x61,x62,x63,x64,x65,x66,x67,x68,x69,x70,x71,x72,x73,x74,x75,x76,x77,x78,x79,x80,x81,x82,x83,x84,x85,x86,x87,x88,x89,x90,x91,x92,x93,x94,x95,x96,x97,x98,x99,x100,x101,x102,x103,x104,x105,x106,x107,x108,x109,x110,x111,x112,x113,x114,x115,x116,x117,x118,x119,x120,x121,x122,x123,x124,x125,x126,x127,x128,x129,x130,x131,x132,x133,x134,x135,x136,x137,x138,x139,x140,x141,x142,x143,x144,x145,x146,x147,x148,x149] v180) fun q181=>
 bnd (F.ne q181 0) fun v182=>
 bite v182 (
 some (.inl ())) (
 bnd (F.add .i64 x5 1) fun v183=>
 glazierlaw22_FragsMasks_l2 fl n x0 x1 x2 x3 x4 v183 x6 x7 x8 x9 x10 x11 x12 x13 x14 x15 x16 x17 x18 x19 x20 x21 x22 x23 x24 x25 x26 x27 x28 x29 x30 x31 x32 x33 x34 x35 x36 x37 x38 x39 x40 x41 x42 x43 x44 x45 x46 x47 x48 x49 x50 x51 x52 x53 x54 x55 x56 x57 x58 x59 x60 x61 x62 x63 x64 x65 x66 x67 x68 x69 x70 x71 x72 x73 x74 x75 x76 x77 x78 x79 x80 x81 x82 x83 x84 x85 x86 x87 x88 x89 x90 x91 x92 x93 x94 x95 x96 x97 x98 x99 x100 x101 x102 x103 x104 x105 x106 x107 x108 x109 x110 x111 x112 x113 x114 x115 x116 x117 x118 x119 x120 x121 x122 x123 x124 x125 x126 x127 x128 x129 x130 x131 x132 x133 x134 x135 x136 x137 x138 x139 x140 x141 x142 x143 x144 x145 x146 x147 x148 x149)))) (
 bnd (F.mul .i64 16 v152) fun v184=>
 bnd (F.gt v184 x2) fun v185=>
 bite v185 (
 bite v165 (
 bnd (F.mul .i64 v153 12) fun v186=>
 bnd (F.add .i64 v186 v152) fun v187=>
 bgd (F.within v187 144) (
 obind (F.get [x6,x7,x8,x9,x10,x11,x12,x13,x14,x15,x16,x17,x18,x19,x20,x21,x22,x23,x24,x25,x26,x27,x28,x29,x30,x31,x32,x33,x34,x35,x36,x37,x38,x39,x40,x41,x42,x43,x44,x45,x46,x47,x48,x49,x50,x51,x52,x53,x54,x55,x56,x57,x58,x59,x60,x61,x62,x63,x64,x65,x66,x67,x68,x69,x70,x71,x72,x73,x74,x75,x76,x77,x78,x79,x80,x81,x82,x83,x84,x85,x86,x87,x88,x89,x90,x91,x92,x93,x94,x95,x96,x97,x98,x99,x100,x101,x102,x103,x104,x105,x106,x107,x108,x109,x110,x111,x112,x113,x114,x115,x116,x117,x118,x119,x120,x121,x122,x123,x124,x125,x126,x127,x128,x129,x130,x131,x132,x133,x134,x135,x136,x137,x138,x139,x140,x141,x142,x143,x144,x145,x146,x147,x148,x149] v187) fun q188=>
 bnd (F.ne q188 15) fun v189=>
 bite v189 (
 some (.inl ())) (
 bnd (F.mul .i64 v153 12) fun v190=>
 bnd (F.add .i64 v190 v152) fun v191=>
 bgd (F.within v191 144) (
 obind (F.get [x6,x7,x8,x9,x10,x11,x12,x13,x14,x15,x16,x17,x18,x19,x20,x21,x22,x23,x24,x25,x26,x27,x28,x29,x30,x31,x32,x33,x34,x35,x36,x37,x38,x39,x40,x41,x42,x43,x44,x45,x46,x47,x48,x49,x50,x51,x52,x53,x54,x55,x56,x57,x58,x59,x60,x61,x62,x63,x64,x65,x66,x67,x68,x69,x70,x71,x72,x73,x74,x75,x76,x77,x78,x79,x80,x81,x82,x83,x84,x85,x86,x87,x88,x89,x90,x91,x92,x93,x94,x95,x96,x97,x98,x99,x100,x101,x102,x103,x104,x105,x106,x107,x108,x109,x110,x111,x112,x113,x114,x115,x116,x117,x118,x119,x120,x121,x122,x123,x124,x125,x126,x127,x128,x129,x130,x131,x132,x133,x134,x135,x136,x137,x138,x139,x140,x141,x142,x143,x144,x145,x146,x147,x148,x149] v191) fun q192=>
 bnd (F.ne q192 0) fun v193=>
 bite v193 (
 some (.inl ())) (
 bnd (F.add .i64 x5 1) fun v194=>
 glazierlaw22_FragsMasks_l2 fl n x0 x1 x2 x3 x4 v194 x6 x7 x8 x9 x10 x11 x12 x13 x14 x15 x16 x17 x18 x19 x20 x21 x22 x23 x24 x25 x26 x27 x28 x29 x30 x31 x32 x33 x34 x35 x36 x37 x38 x39 x40 x41 x42 x43 x44 x45 x46 x47 x48 x49 x50 x51 x52 x53 x54 x55 x56 x57 x58 x59 x60 x61 x62 x63 x64 x65 x66 x67 x68 x69 x70 x71 x72 x73 x74 x75 x76 x77 x78 x79 x80 x81 x82 x83 x84 x85 x86 x87 x88 x89 x90 x91 x92 x93 x94 x95 x96 x97 x98 x99 x100 x101 x102 x103 x104 x105 x106 x107 x108 x109 x110 x111 x112 x113 x114 x115 x116 x117 x118 x119 x120 x121 x122 x123 x124 x125 x126 x127 x128 x129 x130 x131 x132 x133 x134 x135 x136 x137 x138 x139 x140 x141 x142 x143 x144 x145 x146 x147 x148 x149))))) (
 bnd (F.mul .i64 v153 12) fun v195=>
 bnd (F.add .i64 v195 v152) fun v196=>
 bgd (F.within v196 144) (
 obind (F.get [x6,x7,x8,x9,x10,x11,x12,x13,x14,x15,x16,x17,x18,x19,x20,x21,x22,x23,x24,x25,x26,x27,x28,x29,x30,x31,x32,x33,x34,x35,x36,x37,x38,x39,x40,x41,x42,x43,x44,x45,x46,x47,x48,x49,x50,x51,x52,x53,x54,x55,x56,x57,x58,x59,x60,x61,x62,x63,x64,x65,x66,x67,x68,x69,x70,x71,x72,x73,x74,x75,x76,x77,x78,x79,x80,x81,x82,x83,x84,x85,x86,x87,x88,x89,x90,x91,x92,x93,x94,x95,x96,x97,x98,x99,x100,x101,x102,x103,x104,x105,x106,x107,x108,x109,x110,x111,x112,x113,x114,x115,x116,x117,x118,x119,x120,x121,x122,x123,x124,x125,x126,x127,x128,x129,x130,x131,x132,x133,x134,x135,x136,x137,x138,x139,x140,x141,x142,x143,x144,x145,x146,x147,x148,x149] v196) fun q197=>
 bnd (F.ne q197 0) fun v198=>
 bite v198 (
 some (.inl ())) (
 bnd (F.add .i64 x5 1) fun v199=>
 glazierlaw22_FragsMasks_l2 fl n x0 x1 x2 x3 x4 v199 x6 x7 x8 x9 x10 x11 x12 x13 x14 x15 x16 x17 x18 x19 x20 x21 x22 x23 x24 x25 x26 x27 x28 x29 x30 x31 x32 x33 x34 x35 x36 x37 x38 x39 x40 x41 x42 x43 x44 x45 x46 x47 x48 x49 x50 x51 x52 x53 x54 x55 x56 x57 x58 x59 x60 x61 x62 x63 x64 x65 x66 x67 x68 x69 x70 x71 x72 x73 x74 x75 x76 x77 x78 x79 x80 x81 x82 x83 x84 x85 x86 x87 x88 x89 x90 x91 x92 x93 x94 x95 x96 x97 x98 x99 x100 x101 x102 x103 x104 x105 x106 x107 x108 x109 x110 x111 x112 x113 x114 x115 x116 x117 x118 x119 x120 x121 x122 x123 x124 x125 x126 x127 x128 x129 x130 x131 x132 x133 x134 x135 x136 x137 x138 x139 x140 x141 x142 x143 x144 x145 x146 x147 x148 x149)))) (
 bnd (F.mul .i64 16 v153) fun v200=>
 bnd (F.add .i64 v200 15) fun v201=>
 bnd (F.sub .i64 x3 1) fun v202=>
 bnd (F.lt v201 v202) fun v203=>
 bite v203 (
 bite v165 (
 bnd (F.mul .i64 v153 12) fun v204=>
 bnd (F.add .i64 v204 v152) fun v205=>
 bgd (F.within v205 144) (
 obind (F.get [x6,x7,x8,x9,x10,x11,x12,x13,x14,x15,x16,x17,x18,x19,x20,x21,x22,x23,x24,x25,x26,x27,x28,x29,x30,x31,x32,x33,x34,x35,x36,x37,x38,x39,x40,x41,x42,x43,x44,x45,x46,x47,x48,x49,x50,x51,x52,x53,x54,x55,x56,x57,x58,x59,x60,x61,x62,x63,x64,x65,x66,x67,x68,x69,x70,x71,x72,x73,x74,x75,x76,x77,x78,x79,x80,x81,x82,x83,x84,x85,x86,x87,x88,x89,x90,x91,x92,x93,x94,x95,x96,x97,x98,x99,x100,x101,x102,x103,x104,x105,x106,x107,x108,x109,x110,x111,x112,x113,x114,x115,x116,x117,x118,x119,x120,x121,x122,x123,x124,x125,x126,x127,x128,x129,x130,x131,x132,x133,x134,x135,x136,x137,x138,x139,x140,x141,x142,x143,x144,x145,x146,x147,x148,x149] v205) fun q206=>
 bnd (F.ne q206 15) fun v207=>
 bite v207 (
 some (.inl ())) (
 bnd (F.mul .i64 v153 12) fun v208=>
 bnd (F.add .i64 v208 v152) fun v209=>
 bgd (F.within v209 144) (
 obind (F.get [x6,x7,x8,x9,x10,x11,x12,x13,x14,x15,x16,x17,x18,x19,x20,x21,x22,x23,x24,x25,x26,x27,x28,x29,x30,x31,x32,x33,x34,x35,x36,x37,x38,x39,x40,x41,x42,x43,x44,x45,x46,x47,x48,x49,x50,x51,x52,x53,x54,x55,x56,x57,x58,x59,x60,x61,x62,x63,x64,x65,x66,x67,x68,x69,x70,x71,x72,x73,x74,x75,x76,x77,x78,x79,x80,x81,x82,x83,x84,x85,x86,x87,x88,x89,x90,x91,x92,x93,x94,x95,x96,x97,x98,x99,x100,x101,x102,x103,x104,x105,x106,x107,x108,x109,x110,x111,x112,x113,x114,x115,x116,x117,x118,x119,x120,x121,x122,x123,x124,x125,x126,x127,x128,x129,x130,x131,x132,x133,x134,x135,x136,x137,x138,x139,x140,x141,x142,x143,x144,x145,x146,x147,x148,x149] v209) fun q210=>
 bnd (F.ne q210 0) fun v211=>
 bite v211 (
 some (.inl ())) (
 bnd (F.add .i64 x5 1) fun v212=>
 glazierlaw22_FragsMasks_l2 fl n x0 x1 x2 x3 x4 v212 x6 x7 x8 x9 x10 x11 x12 x13 x14 x15 x16 x17 x18 x19 x20 x21 x22 x23 x24 x25 x26 x27 x28 x29 x30 x31 x32 x33 x34 x35 x36 x37 x38 x39 x40 x41 x42 x43 x44 x45 x46 x47 x48 x49 x50 x51 x52 x53 x54 x55 x56 x57 x58 x59 x60 x61 x62 x63 x64 x65 x66 x67 x68 x69 x70 x71 x72 x73 x74 x75 x76 x77 x78 x79 x80 x81 x82 x83 x84 x85 x86 x87 x88 x89 x90 x91 x92 x93 x94 x95 x96 x97 x98 x99 x100 x101 x102 x103 x104 x105 x106 x107 x108 x109 x110 x111 x112 x113 x114 x115 x116 x117 x118 x119 x120 x121 x122 x123 x124 x125 x126 x127 x128 x129 x130 x131 x132 x133 x134 x135 x136 x137 x138 x139 x140 x141 x142 x143 x144 x145 x146 x147 x148 x149))))) (
 bnd (F.mul .i64 v153 12) fun v213=>
 bnd (F.add .i64 v213 v152) fun v214=>
 bgd (F.within v214 144) (
 obind (F.get [x6,x7,x8,x9,x10,x11,x12,x13,x14,x15,x16,x17,x18,x19,x20,x21,x22,x23,x24,x25,x26,x27,x28,x29,x30,x31,x32,x33,x34,x35,x36,x37,x38,x39,x40,x41,x42,x43,x44,x45,x46,x47,x48,x49,x50,x51,x52,x53,x54,x55,x56,x57,x58,x59,x60,x61,x62,x63,x64,x65,x66,x67,x68,x69,x70,x71,x72,x73,x74,x75,x76,x77,x78,x79,x80,x81,x82,x83,x84,x85,x86,x87,x88,x89,x90,x91,x92,x93,x94,x95,x96,x97,x98,x99,x100,x101,x102,x103,x104,x105,x106,x107,x108,x109,x110,x111,x112,x113,x114,x115,x116,x117,x118,x119,x120,x121,x122,x123,x124,x125,x126,x127,x128,x129,x130,x131,x132,x133,x134,x135,x136,x137,x138,x139,x140,x141,x142,x143,x144,x145,x146,x147,x148,x149] v214) fun q215=>
 bnd (F.ne q215 0) fun v216=>
 bite v216 (
 some (.inl ())) (
 bnd (F.add .i64 x5 1) fun v217=>
 glazierlaw22_FragsMasks_l2 fl n x0 x1 x2 x3 x4 v217 x6 x7 x8 x9 x10 x11 x12 x13 x14 x15 x16 x17 x18 x19 x20 x21 x22 x23 x24 x25 x26 x27 x28 x29 x30 x31 x32 x33 x34 x35 x36 x37 x38 x39 x40 x41 x42 x43 x44 x45 x46 x47 x48 x49 x50 x51 x52 x53 x54 x55 x56 x57 x58 x59 x60 x61 x62 x63 x64 x65 x66 x67 x68 x69 x70 x71 x72 x73 x74 x75 x76 x77 x78 x79 x80 x81 x82 x83 x84 x85 x86 x87 x88 x89 x90 x91 x92 x93 x94 x95 x96 x97 x98 x99 x100 x101 x102 x103 x104 x105 x106 x107 x108 x109 x110 x111 x112 x113 x114 x115 x116 x117 x118 x119 x120 x121 x122 x123 x124 x125 x126 x127 x128 x129 x130 x131 x132 x133 x134 x135 x136 x137 x138 x139 x140 x141 x142 x143 x144 x145 x146 x147 x148 x149)))) (
 bnd (F.mul .i64 16 v153) fun v218=>
 bnd (F.gt v218 x4) fun v219=>
 bite v165 (
 bnd (F.mul .i64 v153 12) fun v220=>
 bnd (F.add .i64 v220 v152) fun v221=>
 bgd (F.within v221 144) (
 obind (F.get [x6,x7,x8,x9,x10,x11,x12,x13,x14,x15,x16,x17,x18,x19,x20,x21,x22,x23,x24,x25,x26,x27,x28,x29,x30,x31,x32,x33,x34,x35,x36,x37,x38,x39,x40,x41,x42,x43,x44,x45,x46,x47,x48,x49,x50,x51,x52,x53,x54,x55,x56,x57,x58,x59,x60,x61,x62,x63,x64,x65,x66,x67,x68,x69,x70,x71,x72,x73,x74,x75,x76,x77,x78,x79,x80,x81,x82,x83,x84,x85,x86,x87,x88,x89,x90,x91,x92,x93,x94,x95,x96,x97,x98,x99,x100,x101,x102,x103,x104,x105,x106,x107,x108,x109,x110,x111,x112,x113,x114,x115,x116,x117,x118,x119,x120,x121,x122,x123,x124,x125,x126,x127,x128,x129,x130,x131,x132,x133,x134,x135,x136,x137,x138,x139,x140,x141,x142,x143,x144,x145,x146,x147,x148,x149] v221) fun q222=>
 bnd (F.ne q222 15) fun v223=>
 bite v223 (
 some (.inl ())) (
 bite v219 (
 bnd (F.mul .i64 v153 12) fun v224=>
 bnd (F.add .i64 v224 v152) fun v225=>
 bgd (F.within v225 144) (
 obind (F.get [x6,x7,x8,x9,x10,x11,x12,x13,x14,x15,x16,x17,x18,x19,x20,x21,x22,x23,x24,x25,x26,x27,x28,x29,x30,x31,x32,x33,x34,x35,x36,x37,x38,x39,x40,x41,x42,x43,x44,x45,x46,x47,x48,x49,x50,x51,x52,x53,x54,x55,x56,x57,x58,x59,x60,x61,x62,x63,x64,x65,x66,x67,x68,x69,x70,x71,x72,x73,x74,x75,x76,x77,x78,x79,x80,x81,x82,x83,x84,x85,x86,x87,x88,x89,x90,x91,x92,x93,x94,x95,x96,x97,x98,x99,x100,x101,x102,x103,x104,x105,x106,x107,x108,x109,x110,x111,x112,x113,x114,x115,x116,x117,x118,x119,x120,x121,x122,x123,x124,x125,x126,x127,x128,x129,x130,x131,x132,x133,x134,x135,x136,x137,x138,x139,x140,x141,x142,x143,x144,x145,x146,x147,x148,x149] v225) fun q226=>
 bnd (F.ne q226 0) fun v227=>
 bite v227 (
 some (.inl ())) (
 bnd (F.add .i64 x5 1) fun v228=>
 glazierlaw22_FragsMasks_l2 fl n x0 x1 x2 x3 x4 v228 x6 x7 x8 x9 x10 x11 x12 x13 x14 x15 x16 x17 x18 x19 x20 x21 x22 x23 x24 x25 x26 x27 x28 x29 x30 x31 x32 x33 x34 x35 x36 x37 x38 x39 x40 x41 x42 x43 x44 x45 x46 x47 x48 x49 x50 x51 x52 x53 x54 x55 x56 x57 x58 x59 x60 x61 x62 x63 x64 x65 x66 x67 x68 x69 x70 x71 x72 x73 x74 x75 x76 x77 x78 x79 x80 x81 x82 x83 x84 x85 x86 x87 x88 x89 x90 x91 x92 x93 x94 x95 x96 x97 x98 x99 x100 x101 x102 x103 x104 x105 x106 x107 x108 x109 x110 x111 x112 x113 x114 x115 x116 x117 x118 x119 x120 x121 x122 x123 x124 x125 x126 x127 x128 x129 x130 x131 x132 x133 x134 x135 x136 x137 x138 x139 x140 x141 x142 x143 x144 x145 x146 x147 x148 x149))) (
 bnd (F.add .i64 x5 1) fun v229=>
 glazierlaw22_FragsMasks_l2 fl n x0 x1 x2 x3 x4 v229 x6 x7 x8 x9 x10 x11 x12 x13 x14 x15 x16 x17 x18 x19 x20 x21 x22 x23 x24 x25 x26 x27 x28 x29 x30 x31 x32 x33 x34 x35 x36 x37 x38 x39 x40 x41 x42 x43 x44 x45 x46 x47 x48 x49 x50 x51 x52 x53 x54 x55 x56 x57 x58 x59 x60 x61 x62 x63 x64 x65 x66 x67 x68 x69 x70 x71 x72 x73 x74 x75 x76 x77 x78 x79 x80 x81 x82 x83 x84 x85 x86 x87 x88 x89 x90 x91 x92 x93 x94 x95 x96 x97 x98 x99 x100 x101 x102 x103 x104 x105 x106 x107 x108 x109 x110 x111 x112 x113 x114 x115 x116 x117 x118 x119 x120 x121 x122 x123 x124 x125 x126 x127 x128 x129 x130 x131 x132 x133 x134 x135 x136 x137 x138 x139 x140 x141 x142 x143 x144 x145 x146 x147 x148 x149)))) (
 bite v219 (
 bnd (F.mul .i64 v153 12) fun v230=>
 bnd (F.add .i64 v230 v152) fun v231=>
 bgd (F.within v231 144) (
 obind (F.get [x6,x7,x8,x9,x10,x11,x12,x13,x14,x15,x16,x17,x18,x19,x20,x21,x22,x23,x24,x25,x26,x27,x28,x29,x30,x31,x32,x33,x34,x35,x36,x37,x38,x39,x40,x41,x42,x43,x44,x45,x46,x47,x48,x49,x50,x51,x52,x53,x54,x55,x56,x57,x58,x59,x60,x61,x62,x63,x64,x65,x66,x67,x68,x69,x70,x71,x72,x73,x74,x75,x76,x77,x78,x79,x80,x81,x82,x83,x84,x85,x86,x87,x88,x89,x90,x91,x92,x93,x94,x95,x96,x97,x98,x99,x100,x101,x102,x103,x104,x105,x106,x107,x108,x109,x110,x111,x112,x113,x114,x115,x116,x117,x118,x119,x120,x121,x122,x123,x124,x125,x126,x127,x128,x129,x130,x131,x132,x133,x134,x135,x136,x137,x138,x139,x140,x141,x142,x143,x144,x145,x146,x147,x148,x149] v231) fun q232=>
 bnd (F.ne q232 0) fun v233=>
 bite v233 (
 some (.inl ())) (
 bnd (F.add .i64 x5 1) fun v234=>
 glazierlaw22_FragsMasks_l2 fl n x0 x1 x2 x3 x4 v234 x6 x7 x8 x9 x10 x11 x12 x13 x14 x15 x16 x17 x18 x19 x20 x21 x22 x23 x24 x25 x26 x27 x28 x29 x30 x31 x32 x33 x34 x35 x36 x37 x38 x39 x40 x41 x42 x43 x44 x45 x46 x47 x48 x49 x50 x51 x52 x53 x54 x55 x56 x57 x58 x59 x60 x61 x62 x63 x64 x65 x66 x67 x68 x69 x70 x71 x72 x73 x74 x75 x76 x77 x78 x79 x80 x81 x82 x83 x84 x85 x86 x87 x88 x89 x90 x91 x92 x93 x94 x95 x96 x97 x98 x99 x100 x101 x102 x103 x104 x105 x106 x107 x108 x109 x110 x111 x112 x113 x114 x115 x116 x117 x118 x119 x120 x121 x122 x123 x124 x125 x126 x127 x128 x129 x130 x131 x132 x133 x134 x135 x136 x137 x138 x139 x140 x141 x142 x143 x144 x145 x146 x147 x148 x149))) (
 bnd (F.add .i64 x5 1) fun v235=>
 glazierlaw22_FragsMasks_l2 fl n x0 x1 x2 x3 x4 v235 x6 x7 x8 x9 x10 x11 x12 x13 x14 x15 x16 x17 x18 x19 x20 x21 x22 x23 x24 x25 x26 x27 x28 x29 x30 x31 x32 x33 x34 x35 x36 x37 x38 x39 x40 x41 x42 x43 x44 x45 x46 x47 x48 x49 x50 x51 x52 x53 x54 x55 x56 x57 x58 x59 x60 x61 x62 x63 x64 x65 x66 x67 x68 x69 x70 x71 x72 x73 x74 x75 x76 x77 x78 x79 x80 x81 x82 x83 x84 x85 x86 x87 x88 x89 x90 x91 x92 x93 x94 x95 x96 x97 x98 x99 x100 x101 x102 x103 x104 x105 x106 x107 x108 x109 x110 x111 x112 x113 x114 x115 x116 x117 x118 x119 x120 x121 x122 x123 x124 x125 x126 x127 x128 x129 x130 x131 x132 x133 x134 x135 x136 x137 x138 x139 x140 x141 x142 x143 x144 x145 x146 x147 x148 x149)))))) (
 bnd (F.mul .i64 16 v152) fun v236=>
 bnd (F.add .i64 v236 15) fun v237=>
 bnd (F.sub .i64 x1 1) fun v238=>
 bnd (F.lt v237 v238) fun v239=>
 bite v239 (
 bnd (F.mul .i64 v153 12) fun v240=>
 bnd (F.add .i64 v240 v152) fun v241=>
 bgd (F.within v241 144) (
 obind (F.get [x6,x7,x8,x9,x10,x11,x12,x13,x14,x15,x16,x17,x18,x19,x20,x21,x22,x23,x24,x25,x26,x27,x28,x29,x30,x31,x32,x33,x34,x35,x36,x37,x38,x39,x40,x41,x42,x43,x44,x45,x46,x47,x48,x49,x50,x51,x52,x53,x54,x55,x56,x57,x58,x59,x60,x61,x62,x63,x64,x65,x66,x67,x68,x69,x70,x71,x72,x73,x74,x75,x76,x77,x78,x79,x80,x81,x82,x83,x84,x85,x86,x87,x88,x89,x90,x91,x92,x93,x94,x95,x96,x97,x98,x99,x100,x101,x102,x103,x104,x105,x106,x107,x108,x109,x110,x111,x112,x113,x114,x115,x116,x117,x118,x119,x120,x121,x122,x123,x124,x125,x126,x127,x128,x129,x130,x131,x132,x133,x134,x135,x136,x137,x138,x139,x140,x141,x142,x143,x144,x145,x146,x147,x148,x149] v241) fun q242=>
 bnd (F.ne q242 0) fun v243=>
 bite v243 (
 some (.inl ())) (
 bnd (F.add .i64 x5 1) fun v244=>
 glazierlaw22_FragsMasks_l2 fl n x0 x1 x2 x3 x4 v244 x6 x7 x8 x9 x10 x11 x12 x13 x14 x15 x16 x17 x18 x19 x20 x21 x22 x23 x24 x25 x26 x27 x28 x29 x30 x31 x32 x33 x34 x35 x36 x37 x38 x39 x40 x41 x42 x43 x44 x45 x46 x47 x48 x49 x50 x51 x52 x53 x54 x55 x56 x57 x58 x59 x60 x61 x62 x63 x64 x65 x66 x67 x68 x69 x70 x71 x72 x73 x74 x75 x76 x77 x78 x79 x80 x81 x82 x83 x84 x85 x86 x87 x88 x89 x90 x91 x92 x93 x94 x95 x96 x97 x98 x99 x100 x101 x102 x103 x104 x105 x106 x107 x108 x109 x110 x111 x112 x113 x114 x115 x116 x117 x118 x119 x120 x121 x122 x123 x124 x125 x126 x127 x128 x129 x130 x131 x132 x133 x134 x135 x136 x137 x138 x139 x140 x141 x142 x143 x144 x145 x146 x147 x148 x149))) (
 bnd (F.mul .i64 16 v152) fun v245=>
 bnd (F.gt v245 x2) fun v246=>
 bite v246 (
 bnd (F.mul .i64 v153 12) fun v247=>
 bnd (F.add .i64 v247 v152) fun v248=>
 bgd (F.within v248 144) (
 obind (F.get [x6,x7,x8,x9,x10,x11,x12,x13,x14,x15,x16,x17,x18,x19,x20,x21,x22,x23,x24,x25,x26,x27,x28,x29,x30,x31,x32,x33,x34,x35,x36,x37,x38,x39,x40,x41,x42,x43,x44,x45,x46,x47,x48,x49,x50,x51,x52,x53,x54,x55,x56,x57,x58,x59,x60,x61,x62,x63,x64,x65,x66,x67,x68,x69,x70,x71,x72,x73,x74,x75,x76,x77,x78,x79,x80,x81,x82,x83,x84,x85,x86,x87,x88,x89,x90,x91,x92,x93,x94,x95,x96,x97,x98,x99,x100,x101,x102,x103,x104,x105,x106,x107,x108,x109,x110,x111,x112,x113,x114,x115,x116,x117,x118,x119,x120,x121,x122,x123,x124,x125,x126,x127,x128,x129,x130,x131,x132,x133,x134,x135,x136,x137,x138,x139,x140,x141,x142,x143,x144,x145,x146,x147,x148,x149] v248) fun q249=>
 bnd (F.ne q249 0) fun v250=>
 bite v250 (
 some (.inl ())) (
 bnd (F.add .i64 x5 1) fun v251=>
 glazierlaw22_FragsMasks_l2 fl n x0 x1 x2 x3 x4 v251 x6 x7 x8 x9 x10 x11 x12 x13 x14 x15 x16 x17 x18 x19 x20 x21 x22 x23 x24 x25 x26 x27 x28 x29 x30 x31 x32 x33 x34 x35 x36 x37 x38 x39 x40 x41 x42 x43 x44 x45 x46 x47 x48 x49 x50 x51 x52 x53 x54 x55 x56 x57 x58 x59 x60 x61 x62 x63 x64 x65 x66 x67 x68 x69 x70 x71 x72 x73 x74 x75 x76 x77 x78 x79 x80 x81 x82 x83 x84 x85 x86 x87 x88 x89 x90 x91 x92 x93 x94 x95 x96 x97 x98 x99 x100 x101 x102 x103 x104 x105 x106 x107 x108 x109 x110 x111 x112 x113 x114 x115 x116 x117 x118 x119 x120 x121 x122 x123 x124 x125 x126 x127 x128 x129 x130 x131 x132 x133 x134 x135 x136 x137 x138 x139 x140 x141 x142 x143 x144 x145 x146 x147 x148 x149))) (
 bnd (F.mul .i64 16 v153) fun v252=>
 bnd (F.add .i64 v252 15) fun v253=>
 bnd (F.sub .i64 x3 1) fun v254=>
 bnd (F.lt v253 v254) fun v255=>
 bite v255 (
 bnd (F.mul .i64 v153 12) fun v256=>
 bnd (F.add .i64 v256 v152) fun v257=>
 bgd (F.within v257 144) (
 obind (F.get [x6,x7,x8,x9,x10,x11,x12,x13,x14,x15,x16,x17,x18,x19,x20,x21,x22,x23,x24,x25,x26,x27,x28,x29,x30,x31,x32,x33,x34,x35,x36,x37,x38,x39,x40,x41,x42,x43,x44,x45,x46,x47,x48,x49,x50,x51,x52,x53,x54,x55,x56,x57,x58,x59,x60,x61,x62,x63,x64,x65,x66,x67,x68,x69,x70,x71,x72,x73,x74,x75,x76,x77,x78,x79,x80,x81,x82,x83,x84,x85,x86,x87,x88,x89,x90,x91,x92,x93,x94,x95,x96,x97,x98,x99,x100,x101,x102,x103,x104,x105,x106,x107,x108,x109,x110,x111,x112,x113,x114,x115,x116,x117,x118,x119,x120,x121,x122,x123,x124,x125,x126,x127,x128,x129,x130,x131,x132,x133,x134,x135,x136,x137,x138,x139,x140,x141,x142,x143,x144,x145,x146,x147,x148,x149] v257) fun q258=>
 bnd (F.ne q258 0) fun v259=>
 bite v259 (
 some (.inl ())) (
 bnd (F.add .i64 x5 1) fun v260=>
 glazierlaw22_FragsMasks_l2 fl n x0 x1 x2 x3 x4 v260 x6 x7 x8 x9 x10 x11 x12 x13 x14 x15 x16 x17 x18 x19 x20 x21 x22 x23 x24 x25 x26 x27 x28 x29 x30 x31 x32 x33 x34 x35 x36 x37 x38 x39 x40 x41 x42 x43 x44 x45 x46 x47 x48 x49 x50 x51 x52 x53 x54 x55 x56 x57 x58 x59 x60 x61 x62 x63 x64 x65 x66 x67 x68 x69 x70 x71 x72 x73 x74 x75 x76 x77 x78 x79 x80 x81 x82 x83 x84 x85 x86 x87 x88 x89 x90 x91 x92 x93 x94 x95 x96 x97 x98 x99 x100 x101 x102 x103 x104 x105 x106 x107 x108 x109 x110 x111 x112 x113 x114 x115 x116 x117 x118 x119 x120 x121 x122 x123 x124 x125 x126 x127 x128 x129 x130 x131 x132 x133 x134 x135 x136 x137 x138 x139 x140 x141 x142 x143 x144 x145 x146 x147 x148 x149))) (
 bnd (F.mul .i64 16 v153) fun v261=>
 bnd (F.gt v261 x4) fun v262=>
 bite v262 (
 bnd (F.mul .i64 v153 12) fun v263=>
 bnd (F.add .i64 v263 v152) fun v264=>
 bgd (F.within v264 144) (
 obind (F.get [x6,x7,x8,x9,x10,x11,x12,x13,x14,x15,x16,x17,x18,x19,x20,x21,x22,x23,x24,x25,x26,x27,x28,x29,x30,x31,x32,x33,x34,x35,x36,x37,x38,x39,x40,x41,x42,x43,x44,x45,x46,x47,x48,x49,x50,x51,x52,x53,x54,x55,x56,x57,x58,x59,x60,x61,x62,x63,x64,x65,x66,x67,x68,x69,x70,x71,x72,x73,x74,x75,x76,x77,x78,x79,x80,x81,x82,x83,x84,x85,x86,x87,x88,x89,x90,x91,x92,x93,x94,x95,x96,x97,x98,x99,x100,x101,x102,x103,x104,x105,x106,x107,x108,x109,x110,x111,x112,x113,x114,x115,x116,x117,x118,x119,x120,x121,x122,x123,x124,x125,x126,x127,x128,x129,x130,x131,x132,x133,x134,x135,x136,x137,x138,x139,x140,x141,x142,x143,x144,x145,x146,x147,x148,x149] v264) fun q265=>
 bnd (F.ne q265 0) fun v266=>
 bite v266 (
 some (.inl ())) (
 bnd (F.add .i64 x5 1) fun v267=>
 glazierlaw22_FragsMasks_l2 fl n x0 x1 x2 x3 x4 v267 x6 x7 x8 x9 x10 x11 x12 x13 x14 x15 x16 x17 x18 x19 x20 x21 x22 x23 x24 x25 x26 x27 x28 x29 x30 x31 x32 x33 x34 x35 x36 x37 x38 x39 x40 x41 x42 x43 x44 x45 x46 x47 x48 x49 x50 x51 x52 x53 x54 x55 x56 x57 x58 x59 x60 x61 x62 x63 x64 x65 x66 x67 x68 x69 x70 x71 x72 x73 x74 x75 x76 x77 x78 x79 x80 x81 x82 x83 x84 x85 x86 x87 x88 x89 x90 x91 x92 x93 x94 x95 x96 x97 x98 x99 x100 x101 x102 x103 x104 x105 x106 x107 x108 x109 x110 x111 x112 x113 x114 x115 x116 x117 x118 x119 x120 x121 x122 x123 x124 x125 x126 x127 x128 x129 x130 x131 x132 x133 x134 x135 x136 x137 x138 x139 x140 x141 x142 x143 x144 x145 x146 x147 x148 x149))) (
 bnd (F.add .i64 x5 1) fun v268=>
 glazierlaw22_FragsMasks_l2 fl n x0 x1 x2 x3 x4 v268 x6 x7 x8 x9 x10 x11 x12 x13 x14 x15 x16 x17 x18 x19 x20 x21 x22 x23 x24 x25 x26 x27 x28 x29 x30 x31 x32 x33 x34 x35 x36 x37 x38 x39 x40 x41 x42 x43 x44 x45 x46 x47 x48 x49 x50 x51 x52 x53 x54 x55 x56 x57 x58 x59 x60 x61 x62 x63 x64 x65 x66 x67 x68 x69 x70 x71 x72 x73 x74 x75 x76 x77 x78 x79 x80 x81 x82 x83 x84 x85 x86 x87 x88 x89 x90 x91 x92 x93 x94 x95 x96 x97 x98 x99 x100 x101 x102 x103 x104 x105 x106 x107 x108 x109 x110 x111 x112 x113 x114 x115 x116 x117 x118 x119 x120 x121 x122 x123 x124 x125 x126 x127 x128 x129 x130 x131 x132 x133 x134 x135 x136 x137 x138 x139 x140 x141 x142 x143 x144 x145 x146 x147 x148 x149)))))) (
 bnd (F.mul .i64 16 v152) fun v269=>
 bnd (F.add .i64 v269 15) fun v270=>
 bnd (F.sub .i64 x1 1) fun v271=>
 bnd (F.lt v270 v271) fun v272=>
 bite v272 (
 bnd (F.mul .i64 v153 12) fun v273=>
 bnd (F.add .i64 v273 v152) fun v274=>
 bgd (F.within v274 144) (
 obind (F.get [x6,x7,x8,x9,x10,x11,x12,x13,x14,x15,x16,x17,x18,x19,x20,x21,x22,x23,x24,x25,x26,x27,x28,x29,x30,x31,x32,x33,x34,x35,x36,x37,x38,x39,x40,x41,x42,x43,x44,x45,x46,x47,x48,x49,x50,x51,x52,x53,x54,x55,x56,x57,x58,x59,x60,x61,x62,x63,x64,x65,x66,x67,x68,x69,x70,x71,x72,x73,x74,x75,x76,x77,x78,x79,x80,x81,x82,x83,x84,x85,x86,x87,x88,x89,x90,x91,x92,x93,x94,x95,x96,x97,x98,x99,x100,x101,x102,x103,x104,x105,x106,x107,x108,x109,x110,x111,x112,x113,x114,x115,x116,x117,x118,x119,x120,x121,x122,x123,x124,x125,x126,x127,x128,x129,x130,x131,x132,x133,x134,x135,x136,x137,x138,x139,x140,x141,x142,x143,x144,x145,x146,x147,x148,x149] v274) fun q275=>
 bnd (F.ne q275 0) fun v276=>
 bite v276 (
 some (.inl ())) (
 bnd (F.add .i64 x5 1) fun v277=>
 glazierlaw22_FragsMasks_l2 fl n x0 x1 x2 x3 x4 v277 x6 x7 x8 x9 x10 x11 x12 x13 x14 x15 x16 x17 x18 x19 x20 x21 x22 x23 x24 x25 x26 x27 x28 x29 x30 x31 x32 x33 x34 x35 x36 x37 x38 x39 x40 x41 x42 x43 x44 x45 x46 x47 x48 x49 x50 x51 x52 x53 x54 x55 x56 x57 x58 x59 x60 x61 x62 x63 x64 x65 x66 x67 x68 x69 x70 x71 x72 x73 x74 x75 x76 x77 x78 x79 x80 x81 x82 x83 x84 x85 x86 x87 x88 x89 x90 x91 x92 x93 x94 x95 x96 x97 x98 x99 x100 x101 x102 x103 x104 x105 x106 x107 x108 x109 x110 x111 x112 x113 x114 x115 x116 x117 x118 x119 x120 x121 x122 x123 x124 x125 x126 x127 x128 x129 x130 x131 x132 x133 x134 x135 x136 x137 x138 x139 x140 x141 x142 x143 x144 x145 x146 x147 x148 x149))) (
 bnd (F.mul .i64 16 v152) fun v278=>
 bnd (F.gt v278 x2) fun v279=>
 bite v279 (
 bnd (F.mul .i64 v153 12) fun v280=>
 bnd (F.add .i64 v280 v152) fun v281=>
 bgd (F.within v281 144) (
 obind (F.get [x6,x7,x8,x9,x10,x11,x12,x13,x14,x15,x16,x17,x18,x19,x20,x21,x22,x23,x24,x25,x26,x27,x28,x29,x30,x31,x32,x33,x34,x35,x36,x37,x38,x39,x40,x41,x42,x43,x44,x45,x46,x47,x48,x49,x50,x51,x52,x53,x54,x55,x56,x57,x58,x59,x60,x61,x62,x63,x64,x65,x66,x67,x68,x69,x70,x71,x72,x73,x74,x75,x76,x77,x78,x79,x80,x81,x82,x83,x84,x85,x86,x87,x88,x89,x90,x91,x92,x93,x94,x95,x96,x97,x98,x99,x100,x101,x102,x103,x104,x105,x106,x107,x108,x109,x110,x111,x112,x113,x114,x115,x116,x117,x118,x119,x120,x121,x122,x123,x124,x125,x126,x127,x128,x129,x130,x131,x132,x133,x134,x135,x136,x137,x138,x139,x140,x141,x142,x143,x144,x145,x146,x147,x148,x149] v281) fun q282=>
 bnd (F.ne q282 0) fun v283=>
 bite v283 (
 some (.inl ())) (
 bnd (F.add .i64 x5 1) fun v284=>
 glazierlaw22_FragsMasks_l2 fl n x0 x1 x2 x3 x4 v284 x6 x7 x8 x9 x10 x11 x12 x13 x14 x15 x16 x17 x18 x19 x20 x21 x22 x23 x24 x25 x26 x27 x28 x29 x30 x31 x32 x33 x34 x35 x36 x37 x38 x39 x40 x41 x42 x43 x44 x45 x46 x47 x48 x49 x50 x51 x52 x53 x54 x55 x56 x57 x58 x59 x60 x61 x62 x63 x64 x65 x66 x67 x68 x69 x70 x71 x72 x73 x74 x75 x76 x77 x78 x79 x80 x81 x82 x83 x84 x85 x86 x87 x88 x89 x90 x91 x92 x93 x94 x95 x96 x97 x98 x99 x100 x101 x102 x103 x104 x105 x106 x107 x108 x109 x110 x111 x112 x113 x114 x115 x116 x117 x118 x119 x120 x121 x122 x123 x124 x125 x126 x127 x128 x129 x130 x131 x132 x133 x134 x135 x136 x137 x138 x139 x140 x141 x142 x143 x144 x145 x146 x147 x148 x149))) (
 bnd (F.mul .i64 16 v153) fun v285=>
 bnd (F.add .i64 v285 15) fun v286=>
 bnd (F.sub .i64 x3 1) fun v287=>
 bnd (F.lt v286 v287) fun v288=>
 bite v288 (
 bnd (F.mul .i64 v153 12) fun v289=>
 bnd (F.add .i64 v289 v152) fun v290=>
 bgd (F.within v290 144) (
 obind (F.get [x6,x7,x8,x9,x10,x11,x12,x13,x14,x15,x16,x17,x18,x19,x20,x21,x22,x23,x24,x25,x26,x27,x28,x29,x30,x31,x32,x33,x34,x35,x36,x37,x38,x39,x40,x41,x42,x43,x44,x45,x46,x47,x48,x49,x50,x51,x52,x53,x54,x55,x56,x57,x58,x59,x60,x61,x62,x63,x64,x65,x66,x67,x68,x69,x70,x71,x72,x73,x74,x75,x76,x77,x78,x79,x80,x81,x82,x83,x84,x85,x86,x87,x88,x89,x90,x91,x92,x93,x94,x95,x96,x97,x98,x99,x100,x101,x102,x103,x104,x105,x106,x107,x108,x109,x110,x111,x112,x113,x114,x115,x116,x117,x118,x119,x120,x121,x122,x123,x124,x125,x126,x127,x128,x129,x130,x131,x132,x133,x134,x135,x136,x137,x138,x139,x140,x141,x142,x143,x144,x145,x146,x147,x148,x149] v290) fun q291=>
 bnd (F.ne q291 0) fun v292=>
 bite v292 (
 some (.inl ())) (
 bnd (F.add .i64 x5 1) fun v293=>
 glazierlaw22_FragsMasks_l2 fl n x0 x1 x2 x3 x4 v293 x6 x7 x8 x9 x10 x11 x12 x13 x14 x15 x16 x17 x18 x19 x20 x21 x22 x23 x24 x25 x26 x27 x28 x29 x30 x31 x32 x33 x34 x35 x36 x37 x38 x39 x40 x41 x42 x43 x44 x45 x46 x47 x48 x49 x50 x51 x52 x53 x54 x55 x56 x57 x58 x59 x60 x61 x62 x63 x64 x65 x66 x67 x68 x69 x70 x71 x72 x73 x74 x75 x76 x77 x78 x79 x80 x81 x82 x83 x84 x85 x86 x87 x88 x89 x90 x91 x92 x93 x94 x95 x96 x97 x98 x99 x100 x101 x102 x103 x104 x105 x106 x107 x108 x109 x110 x111 x112 x113 x114 x115 x116 x117 x118 x119 x120 x121 x122 x123 x124 x125 x126 x127 x128 x129 x130 x131 x132 x133 x134 x135 x136 x137 x138 x139 x140 x141 x142 x143 x144 x145 x146 x147 x148 x149))) (
 bnd (F.mul .i64 16 v153) fun v294=>
 bnd (F.gt v294 x4) fun v295=>
 bite v295 (
 bnd (F.mul .i64 v153 12) fun v296=>
 bnd (F.add .i64 v296 v152) fun v297=>
 bgd (F.within v297 144) (
 obind (F.get [x6,x7,x8,x9,x10,x11,x12,x13,x14,x15,x16,x17,x18,x19,x20,x21,x22,x23,x24,x25,x26,x27,x28,x29,x30,x31,x32,x33,x34,x35,x36,x37,x38,x39,x40,x41,x42,x43,x44,x45,x46,x47,x48,x49,x50,x51,x52,x53,x54,x55,x56,x57,x58,x59,x60,x61,x62,x63,x64,x65,x66,x67,x68,x69,x70,x71,x72,x73,x74,x75,x76,x77,x78,x79,x80,x81,x82,x83,x84,x85,x86,x87,x88,x89,x90,x91,x92,x93,x94,x95,x96,x97,x98,x99,x100,x101,x102,x103,x104,x105,x106,x107,x108,x109,x110,x111,x112,x113,x114,x115,x116,x117,x118,x119,x120,x121,x122,x123,x124,x125,x126,x127,x128,x129,x130,x131,x132,x133,x134,x135,x136,x137,x138,x139,x140,x141,x142,x143,x144,x145,x146,x147,x148,x149] v297) fun q298=>
 bnd (F.ne q298 0) fun v299=>
 bite v299 (
 some (.inl ())) (
 bnd (F.add .i64 x5 1) fun v300=>
 glazierlaw22_FragsMasks_l2 fl n x0 x1 x2 x3 x4 v300 x6 x7 x8 x9 x10 x11 x12 x13 x14 x15 x16 x17 x18 x19 x20 x21 x22 x23 x24 x25 x26 x27 x28 x29 x30 x31 x32 x33 x34 x35 x36 x37 x38 x39 x40 x41 x42 x43 x44 x45 x46 x47 x48 x49 x50 x51 x52 x53 x54 x55 x56 x57 x58 x59 x60 x61 x62 x63 x64 x65 x66 x67 x68 x69 x70 x71 x72 x73 x74 x75 x76 x77 x78 x79 x80 x81 x82 x83 x84 x85 x86 x87 x88 x89 x90 x91 x92 x93 x94 x95 x96 x97 x98 x99 x100 x101 x102 x103 x104 x105 x106 x107 x108 x109 x110 x111 x112 x113 x114 x115 x116 x117 x118 x119 x120 x121 x122 x123 x124 x125 x126 x127 x128 x129 x130 x131 x132 x133 x134 x135 x136 x137 x138 x139 x140 x141 x142 x143 x144 x145 x146 x147 x148 x149))) (
 bnd (F.add .i64 x5 1) fun v301=>
 glazierlaw22_FragsMasks_l2 fl n x0 x1 x2 x3 x4 v301 x6 x7 x8 x9 x10 x11 x12 x13 x14 x15 x16 x17 x18 x19 x20 x21 x22 x23 x24 x25 x26 x27 x28 x29 x30 x31 x32 x33 x34 x35 x36 x37 x38 x39 x40 x41 x42 x43 x44 x45 x46 x47 x48 x49 x50 x51 x52 x53 x54 x55 x56 x57 x58 x59 x60 x61 x62 x63 x64 x65 x66 x67 x68 x69 x70 x71 x72 x73 x74 x75 x76 x77 x78 x79 x80 x81 x82 x83 x84 x85 x86 x87 x88 x89 x90 x91 x92 x93 x94 x95 x96 x97 x98 x99 x100 x101 x102 x103 x104 x105 x106 x107 x108 x109 x110 x111 x112 x113 x114 x115 x116 x117 x118 x119 x120 x121 x122 x123 x124 x125 x126 x127 x128 x129 x130 x131 x132 x133 x134 x135 x136 x137 x138 x139 x140 x141 x142 x143 x144 x145 x146 x147 x148 x149)))))) (
 bnd (F.mul .i64 16 v152) fun v302=>
 bnd (F.add .i64 v302 15) fun v303=>
 bnd (F.sub .i64 x1 1) fun v304=>
 bnd (F.lt v303 v304) fun v305=>
 bite v305 (
 bnd (F.mul .i64 v153 12) fun v306=>
 bnd (F.add .i64 v306 v152) fun v307=>
 bgd (F.within v307 144) (
 obind (F.get [x6,x7,x8,x9,x10,x11,x12,x13,x14,x15,x16,x17,x18,x19,x20,x21,x22,x23,x24,x25,x26,x27,x28,x29,x30,x31,x32,x33,x34,x35,x36,x37,x38,x39,x40,x41,x42,x43,x44,x45,x46,x47,x48,x49,x50,x51,x52,x53,x54,x55,x56,x57,x58,x59,x60,x61,x62,x63,x64,x65,x66,x67,x68,x69,x70,x71,x72,x73,x74,x75,x76,x77,x78,x79,x80,x81,x82,x83,x84,x85,x86,x87,x88,x89,x90,x91,x92,x93,x94,x95,x96,x97,x98,x99,x100,x101,x102,x103,x104,x105,x106,x107,x108,x109,x110,x111,x112,x113,x114,x115,x116,x117,x118,x119,x120,x121,x122,x123,x124,x125,x126,x127,x128,x129,x130,x131,x132,x133,x134,x135,x136,x137,x138,x139,x140,x141,x142,x143,x144,x145,x146,x147,x148,x149] v307) fun q308=>
 bnd (F.ne q308 0) fun v309=>
 bite v309 (
 some (.inl ())) (
 bnd (F.add .i64 x5 1) fun v310=>
 glazierlaw22_FragsMasks_l2 fl n x0 x1 x2 x3 x4 v310 x6 x7 x8 x9 x10 x11 x12 x13 x14 x15 x16 x17 x18 x19 x20 x21 x22 x23 x24 x25 x26 x27 x28 x29 x30 x31 x32 x33 x34 x35 x36 x37 x38 x39 x40 x41 x42 x43 x44 x45 x46 x47 x48 x49 x50 x51 x52 x53 x54 x55 x56 x57 x58 x59 x60 x61 x62 x63 x64 x65 x66 x67 x68 x69 x70 x71 x72 x73 x74 x75 x76 x77 x78 x79 x80 x81 x82 x83 x84 x85 x86 x87 x88 x89 x90 x91 x92 x93 x94 x95 x96 x97 x98 x99 x100 x101 x102 x103 x104 x105 x106 x107 x108 x109 x110 x111 x112 x113 x114 x115 x116 x117 x118 x119 x120 x121 x122 x123 x124 x125 x126 x127 x128 x129 x130 x131 x132 x133 x134 x135 x136 x137 x138 x139 x140 x141 x142 x143 x144 x145 x146 x147 x148 x149))) (
 bnd (F.mul .i64 16 v152) fun v311=>
 bnd (F.gt v311 x2) fun v312=>
 bite v312 (
 bnd (F.mul .i64 v153 12) fun v313=>
 bnd (F.add .i64 v313 v152) fun v314=>
 bgd (F.within v314 144) (
 obind (F.get [x6,x7,x8,x9,x10,x11,x12,x13,x14,x15,x16,x17,x18,x19,x20,x21,x22,x23,x24,x25,x26,x27,x28,x29,x30,x31,x32,x33,x34,x35,x36,x37,x38,x39,x40,x41,x42,x43,x44,x45,x46,x47,x48,x49,x50,x51,x52,x53,x54,x55,x56,x57,x58,x59,x60,x61,x62,x63,x64,x65,x66,x67,x68,x69,x70,x71,x72,x73,x74,x75,x76,x77,x78,x79,x80,x81,x82,x83,x84,x85,x86,x87,x88,x89,x90,x91,x92,x93,x94,x95,x96,x97,x98,x99,x100,x101,x102,x103,x104,x105,x106,x107,x108,x109,x110,x111,x112,x113,x114,x115,x116,x117,x118,x119,x120,x121,x122,x123,x124,x125,x126,x127,x128,x129,x130,x131,x132,x133,x134,x135,x136,x137,x138,x139,x140,x141,x142,x143,x144,x145,x146,x147,x148,x149] v314) fun q315=>
 bnd (F.ne q315 0) fun v316=>
 bite v316 (
 some (.inl ())) (
 bnd (F.add .i64 x5 1) fun v317=>
 glazierlaw22_FragsMasks_l2 fl n x0 x1 x2 x3 x4 v317 x6 x7 x8 x9 x10 x11 x12 x13 x14 x15 x16 x17 x18 x19 x20 x21 x22 x23 x24 x25 x26 x27 x28 x29 x30 x31 x32 x33 x34 x35 x36 x37 x38 x39 x40 x41 x42 x43 x44 x45 x46 x47 x48 x49 x50 x51 x52 x53 x54 x55 x56 x57 x58 x59 x60 x61 x62 x63 x64 x65 x66 x67 x68 x69 x70 x71 x72 x73 x74 x75 x76 x77 x78 x79 x80 x81 x82 x83 x84 x85 x86 x87 x88 x89 x90 x91 x92 x93 x94 x95 x96 x97 x98 x99 x100 x101 x102 x103 x104 x105 x106 x107 x108 x109 x110 x111 x112 x113 x114 x115 x116 x117 x118 x119 x120 x121 x122 x123 x124 x125 x126 x127 x128 x129 x130 x131 x132 x133 x134 x135 x136 x137 x138 x139 x140 x141 x142 x143 x144 x145 x146 x147 x148 x149))) (
 bnd (F.mul .i64 16 v153) fun v318=>
 bnd (F.add .i64 v318 15) fun v319=>
 bnd (F.sub .i64 x3 1) fun v320=>
 bnd (F.lt v319 v320) fun v321=>
 bite v321 (
 bnd (F.mul .i64 v153 12) fun v322=>
 bnd (F.add .i64 v322 v152) fun v323=>
 bgd (F.within v323 144) (
 obind (F.get [x6,x7,x8,x9,x10,x11,x12,x13,x14,x15,x16,x17,x18,x19,x20,x21,x22,x23,x24,x25,x26,x27,x28,x29,x30,x31,x32,x33,x34,x35,x36,x37,x38,x39,x40,x41,x42,x43,x44,x45,x46,x47,x48,x49,x50,x51,x52,x53,x54,x55,x56,x57,x58,x59,x60,x61,x62,x63,x64,x65,x66,x67,x68,x69,x70,x71,x72,x73,x74,x75,x76,x77,x78,x79,x80,x81,x82,x83,x84,x85,x86,x87,x88,x89,x90,x91,x92,x93,x94,x95,x96,x97,x98,x99,x100,x101,x102,x103,x104,x105,x106,x107,x108,x109,x110,x111,x112,x113,x114,x115,x116,x117,x118,x119,x120,x121,x122,x123,x124,x125,x126,x127,x128,x129,x130,x131,x132,x133,x134,x135,x136,x137,x138,x139,x140,x141,x142,x143,x144,x145,x146,x147,x148,x149] v323) fun q324=>
 bnd (F.ne q324 0) fun v325=>
 bite v325 (
 some (.inl ())) (
 bnd (F.add .i64 x5 1) fun v326=>
 glazierlaw22_FragsMasks_l2 fl n x0 x1 x2 x3 x4 v326 x6 x7 x8 x9 x10 x11 x12 x13 x14 x15 x16 x17 x18 x19 x20 x21 x22 x23 x24 x25 x26 x27 x28 x29 x30 x31 x32 x33 x34 x35 x36 x37 x38 x39 x40 x41 x42 x43 x44 x45 x46 x47 x48 x49 x50 x51 x52 x53 x54 x55 x56 x57 x58 x59 x60 x61 x62 x63 x64 x65 x66 x67 x68 x69 x70 x71 x72 x73 x74 x75 x76 x77 x78 x79 x80 x81 x82 x83 x84 x85 x86 x87 x88 x89 x90 x91 x92 x93 x94 x95 x96 x97 x98 x99 x100 x101 x102 x103 x104 x105 x106 x107 x108 x109 x110 x111 x112 x113 x114 x115 x116 x117 x118 x119 x120 x121 x122 x123 x124 x125 x126 x127 x128 x129 x130 x131 x132 x133 x134 x135 x136 x137 x138 x139 x140 x141 x142 x143 x144 x145 x146 x147 x148 x149))) (
 bnd (F.mul .i64 16 v153) fun v327=>
 bnd (F.gt v327 x4) fun v328=>
 bite v328 (
 bnd (F.mul .i64 v153 12) fun v329=>
 bnd (F.add .i64 v329 v152) fun v330=>
 bgd (F.within v330 144) (
 obind (F.get [x6,x7,x8,x9,x10,x11,x12,x13,x14,x15,x16,x17,x18,x19,x20,x21,x22,x23,x24,x25,x26,x27,x28,x29,x30,x31,x32,x33,x34,x35,x36,x37,x38,x39,x40,x41,x42,x43,x44,x45,x46,x47,x48,x49,x50,x51,x52,x53,x54,x55,x56,x57,x58,x59,x60,x61,x62,x63,x64,x65,x66,x67,x68,x69,x70,x71,x72,x73,x74,x75,x76,x77,x78,x79,x80,x81,x82,x83,x84,x85,x86,x87,x88,x89,x90,x91,x92,x93,x94,x95,x96,x97,x98,x99,x100,x101,x102,x103,x104,x105,x106,x107,x108,x109,x110,x111,x112,x113,x114,x115,x116,x117,x118,x119,x120,x121,x122,x123,x124,x125,x126,x127,x128,x129,x130,x131,x132,x133,x134,x135,x136,x137,x138,x139,x140,x141,x142,x143,x144,x145,x146,x147,x148,x149] v330) fun q331=>
 bnd (F.ne q331 0) fun v332=>
 bite v332 (
 some (.inl ())) (
 bnd (F.add .i64 x5 1) fun v333=>
 glazierlaw22_FragsMasks_l2 fl n x0 x1 x2 x3 x4 v333 x6 x7 x8 x9 x10 x11 x12 x13 x14 x15 x16 x17 x18 x19 x20 x21 x22 x23 x24 x25 x26 x27 x28 x29 x30 x31 x32 x33 x34 x35 x36 x37 x38 x39 x40 x41 x42 x43 x44 x45 x46 x47 x48 x49 x50 x51 x52 x53 x54 x55 x56 x57 x58 x59 x60 x61 x62 x63 x64 x65 x66 x67 x68 x69 x70 x71 x72 x73 x74 x75 x76 x77 x78 x79 x80 x81 x82 x83 x84 x85 x86 x87 x88 x89 x90 x91 x92 x93 x94 x95 x96 x97 x98 x99 x100 x101 x102 x103 x104 x105 x106 x107 x108 x109 x110 x111 x112 x113 x114 x115 x116 x117 x118 x119 x120 x121 x122 x123 x124 x125 x126 x127 x128 x129 x130 x131 x132 x133 x134 x135 x136 x137 x138 x139 x140 x141 x142 x143 x144 x145 x146 x147 x148 x149))) (
 bnd (F.add .i64 x5 1) fun v334=>
 glazierlaw22_FragsMasks_l2 fl n x0 x1 x2 x3 x4 v334 x6 x7 x8 x9 x10 x11 x12 x13 x14 x15 x16 x17 x18 x19 x20 x21 x22 x23 x24 x25 x26 x27 x28 x29 x30 x31 x32 x33 x34 x35 x36 x37 x38 x39 x40 x41 x42 x43 x44 x45 x46 x47 x48 x49 x50 x51 x52 x53 x54 x55 x56 x57 x58 x59 x60 x61 x62 x63 x64 x65 x66 x67 x68 x69 x70 x71 x72 x73 x74 x75 x76 x77 x78 x79 x80 x81 x82 x83 x84 x85 x86 x87 x88 x89 x90 x91 x92 x93 x94 x95 x96 x97 x98 x99 x100 x101 x102 x103 x104 x105 x106 x107 x108 x109 x110 x111 x112 x113 x114 x115 x116 x117 x118 x119 x120 x121 x122 x123 x124 x125 x126 x127 x128 x129 x130 x131 x132 x133 x134 x135 x136 x137 x138 x139 x140 x141 x142 x143 x144 x145 x146 x147 x148 x149)))))))) (
 some (.inr ()))
noncomputable def glazierlaw22_FragsMasks (fl:Nat) (x0:Int × Int) (x1 x2:Int):Option (Bool):=
 obind (glazierlaw22_shown fl) fun q3=>
 bnd (F.conv .i64 x2) fun v4=>
 bnd (F.rem v4 12) fun v5=>
 bnd (F.add .i64 1 v5) fun v6=>
 bnd (F.conv .i64 x1) fun v7=>
 bnd (F.rem v7 200) fun v8=>
 bnd (F.add .i64 1 v8) fun v9=>
 bnd (F.conv .i64 x0.1) fun v10=>
 bnd (F.conv .i64 x0.2) fun v11=>
 bnd (F.add .i64 v10 v9) fun v12=>
 bnd (F.add .i64 v10 v9) fun v13=>
 bnd (F.add .i64 v11 v9) fun v14=>
 bnd (F.add .i64 v11 v9) fun v15=>
 bnd (F.not q3) fun v16=>
 bite v16 (
 some false) (
 obind (glazierlaw22_gone fl ((v6,(v6,((0,(0,(0,0))),([(v10,(v11,(0,(100,(0,(0,(0,0))))))),(v12,(v11,(0,(100,(0,(0,(0,0))))))),(v13,(v14,(0,(100,(0,(0,(0,0))))))),(v10,(v15,(0,(100,(0,(0,(0,0)))))))],([],([[(1,(0,(0,(0,0))))]],[(0,(0,((-1),(false,[(1,(0,(1,2))),(2,(0,(2,3)))]))))])))))),(0,0)) (0,(0,(v6,v6))) false 100000) fun q17=>
 bnd (F.not q17.1.2) fun v18=>
 bite v18 (
 some false) (
 obind (glazierlaw22_FragsMasks_l1 fl fl v6 v9 v10 v11 q17.1.1 0 0 0 0 0 0 0 0 0 0 0 0 0 0 0 0 0 0 0 0 0 0 0 0 0 0 0 0 0 0 0 0 0 0 0 0 0 0 0 0 0 0 0 0 0 0 0 0 0 0 0 0 0 0 0 0 0 0 0 0 0 0 0 0 0 0 0 0 0 0 0 0 0 0 0 0 0 0 0 0 0 0 0 0 0 0 0 0 0 0 0 0 0 0 0 0 0 0 0 0 0 0 0 0 0 0 0 0 0 0 0 0 0 0 0 0 0 0 0 0 0 0 0 0 0 0 0 0 0 0 0 0 0 0 0 0 0 0 0 0 0 0 0 0 0) fun q19=>
 osum q19 (fun s20=>
 some false) (fun r21=>
 bnd (F.mul .i64 r21.2.2.1 8) fun v22=>
 bnd (F.mul .i64 v22 r21.1) fun v23=>
 bnd (F.quo .i64 v23 100) fun v24=>
 bnd (F.mul .i64 8 r21.1) fun v25=>
 bnd (F.add .i64 v24 v25) fun v26=>
 bnd (F.add .i64 r21.2.2.1 r21.2.1) fun v27=>
 bnd (F.mul .i64 v27 8) fun v28=>
 bnd (F.mul .i64 v28 r21.1) fun v29=>
 bnd (F.quo .i64 v29 100) fun v30=>
 bnd (F.mul .i64 8 r21.1) fun v31=>
 bnd (F.add .i64 v30 v31) fun v32=>
 bnd (F.mul .i64 r21.2.2.2.1 8) fun v33=>
 bnd (F.mul .i64 v33 r21.1) fun v34=>
 bnd (F.quo .i64 v34 100) fun v35=>
 bnd (F.mul .i64 8 r21.1) fun v36=>
 bnd (F.add .i64 v35 v36) fun v37=>
 bnd (F.add .i64 r21.2.2.2.1 r21.2.1) fun v38=>
 bnd (F.mul .i64 v38 8) fun v39=>
 bnd (F.mul .i64 v39 r21.1) fun v40=>
 bnd (F.quo .i64 v40 100) fun v41=>
 bnd (F.mul .i64 8 r21.1) fun v42=>
 bnd (F.add .i64 v41 v42) fun v43=>
 obind (glazierlaw22_FragsMasks_l2 fl fl r21.1 v26 v32 v37 v43 0 r21.2.2.2.2.1 r21.2.2.2.2.2.1 r21.2.2.2.2.2.2.1 r21.2.2.2.2.2.2.2.1 r21.2.2.2.2.2.2.2.2.1 r21.2.2.2.2.2.2.2.2.2.1 r21.2.2.2.2.2.2.2.2.2.2.1 r21.2.2.2.2.2.2.2.2.2.2.2.1 r21.2.2.2.2.2.2.2.2.2.2.2.2.1 r21.2.2.2.2.2.2.2.2.2.2.2.2.2.1 r21.2.2.2.2.2.2.2.2.2.2.2.2.2.2.1 r21.2.2.2.2.2.2.2.2.2.2.2.2.2.2.2.1 r21.2.2.2.2.2.2.2.2.2.2.2.2.2.2.2.2.1 r21.2.2.2.2.2.2.2.2.2.2.2.2.2.2.2.2.2.1 r21.2.2.2.2.2.2.2.2.2.2.2.2.2.2.2.2.2.2.1 r21.2.2.2.2.2.2.2.2.2.2.2.2.2.2.2.2.2.2.2.1 r21.2.2.2.2.2.2.2.2.2.2.2.2.2.2.2.2.2.2.2.2.1 r21.2.2.2.2.2.2.2.2.2.2.2.2.2.2.2.2.2.2.2.2.2.1 r21.2.2.2.2.2.2.2.2.2.2.2.2.2.2.2.2.2.2.2.2.2.2.1 r21.2.2.2.2.2.2.2.2.2.2.2.2.2.2.2.2.2.2.2.2.2.2.2.1 r21.2.2.2.2.2.2.2.2.2.2.2.2.2.2.2.2.2.2.2.2.2.2.2.2.1 r21.2.2.2.2.2.2.2.2.2.2.2.2.2.2.2.2.2.2.2.2.2.2.2.2.2.1 r21.2.2.2.2.2.2.2.2.2.2.2.2.2.2.2.2.2.2.2.2.2.2.2.2.2.2.1 r21.2.2.2.2.2.2.2.2.2.2.2.2.2.2.2.2.2.2.2.2.2.2.2.2.2.2.2.1 r21.2.2.2.2.2.2.2.2.2.2.2.2.2.2.2.2.2.2.2.2.2.2.2.2.2.2.2.2.1 r21.2.2.2.2.2.2.2.2.2.2.2.2.2.2.2.2.2.2.2.2.2.2.2.2.2.2.2.2.2.1 r21.2.2.2.2.2.2.2.2.2.2.2.2.2.2.2.2.2.2.2.2.2.2.2.2.2.2.2.2.2.2.1 r21.2.2.2.2.2.2.2.2.2.2.2.2.2.2.2.2.2.2.2.2.2.2.2.2.2.2.2.2.2.2.2.1 r21.2.2.2.2.2.2.2.2.2.2.2.2.2.2.2.2.2.2.2.2.2.2.2.2.2.2.2.2.2.2.2.2.1 r21.2.2.2.2.2.2.2.2.2.2.2.2.2.2.2.2.2.2.2.2.2.2.2.2.2.2.2.2.2.2.2.2.2.1 r21.2.2.2.2.2.2.2.2.2.2.2.2.2.2.2.2.2.2.2.2.2.2.2.2.2.2.2.2.2.2.2.2.2.2.1 r21.2.2.2.2.2.2.2.2.2.2.2.2.2.2.2.2.2.2.2.2.2.2.2.2.2.2.2.2.2.2.2.2.2.2.2.1 r21.2.2.2.2.2.2.2.2.2.2.2.2.2.2.2.2.2.2.2.2.2.2.2.2.2.2.2.2.2.2.2.2.2.2.2.2.1 r21.2.2.2.2.2.2.2.2.2.2.2.2.2.2.2.2.2.2.2.2.2.2.2.2.2.2.2.2.2.2.2.2.2.2.2.2.2.1 r21.2.2.2.2.2.2.2.2.2.2.2.2.2.2.2.2.2.2.2.2.2.2.2.2.2.2.2.2.2.2.2.2.2.2.2.2.2.2.1 r21.2.2.2.2.2.2.2.2.2.2.2.2.2.2.2.2.2.2.2.2.2.2.2.2.2.2.2.2.2.2.2.2.2.2.2.2.2.2.2.1 r21.2.2.2.2.2.2.2.2.2.2.2.2.2.2.2.2.2.2.2.2.2.2.2.2.2.2.2.2.2.2.2.2.2.2.2.2.2.2.2.2.1 r21.2.2.2.2.2.2.2.2.2.2.2.2.2.2.2.2.2.2.2.2.2.2.2.2.2.2.2.2.2.2.2.2.2.2.2.2.2.2.2.2.2.1 r21.2.2.2.2.2.2.2.2.2.2.2.2.2.2.2.2.2.2.2.2.2.2.2.2.2.2.2.2.2.2.2.2.2.2.2.2.2.2.2.2.2.2.1 r21.2.2.2.2.2.2.2.2.2.2.2.2.2.2.2.2.2.2.2.2.2.2.2.2.2.2.2.2.2.2.2.2.2.2.2.2.2.2.2.2.2.2.2.1 r21.2.2.2.2.2.2.2.2.2.2.2.2.2.2.2.2.2.2.2.2.2.2.2.2.2.2.2.2.2.2.2.2.2.2.2.2.2.2.2.2.2.2.2.2.1 r21.2.2.2.2.2.2.2.2.2.2.2.2.2.2.2.2.2.2.2.2.2.2.2.2.2.2.2.2.2.2.2.2.2.2.2.2.2.2.2.2.2.2.2.2.2.1 r21.2.2.2.2.2.2.2.2.2.2.2.2.2.2.2.2.2.2.2.2.2.2.2.2.2.2.2.2.2.2.2.2.2.2.2.2.2.2.2.2.2.2.2.2.2.2.1 r21.2.2.2.2.2.2.2.2.2.2.2.2.2.2.2.2.2.2.2.2.2.2.2.2.2.2.2.2.2.2.2.2.2.2.2.2.2.2.2.2.2.2.2.2.2.2.2.1 r21.2.2.2.2.2.2.2.2.2.2.2.2.2.2.2.2.2.2.2.2.2.2.2.2.2.2.2.2.2.2.2.2.2.2.2.2.2.2.2.2.2.2.2.2.2.2.2.2.1 r21.2.2.2.2.2.2.2.2.2.2.2.2.2.2.2.2.2.2.2.2.2.2.2.2.2.2.2.2.2.2.2.2.2.2.2.2.2.2.2.2.2.2.2.2.2.2.2.2.2.1 r21.2.2.2.2.2.2.2.2.2.2.2.2.2.2.2.2.2.2.2.2.2.2.2.2.2.2.2.2.2.2.2.2.2.2.2.2.2.2.2.2.2.2.2.2.2.2.2.2.2.2.1 r21.2.2.2.2.2.2.2.2.2.2.2.2.2.2.2.2.2.2.2.2.2.2.2.2.2.2.2.2.2.2.2.2.2.2.2.2.2.2.2.2.2.2.2.2.2.2.2.2.2.2.2.1 r21.2.2.2.2.2.2.2.2.2.2.2.2.2.2.2.2.2.2.2.2.2.2.2.2.2.2.2.2.2.2.2.2.2.2.2.2.2.2.2.2.2.2.2.2.2.2.2.2.2.2.2.2.1 r21.2.2.2.2.2.2.2.2.2.2.2.2.2.2.2.2.2.2.2.2.2.2.2.2.2.2.2.2.2.2.2.2.2.2.2.2.2.2.2.2.2.2.2.2.2.2.2.2.2.2.2.2.2.1 r21.2.2.2.2.2.2.2.2.2.2.2.2.2.2.2.2.2.2.2.2.2.2.2.2.2.2.2.2.2.2.2.2.2.2.2.2.2.2.2.2.2.2.2.2.2.2.2.2.2.2.2.2.2.2.1 r21.2.2.2.2.2.2.2.2.2.2.2.2.2.2.2.2.2.2.2.2.2.2.2.2.2.2.2.2.2.2.2.2.2.2.2.2.2.2.2.2.2.2.2.2.2.2.2.2.2.2.2.2.2.2.2.1 r21.2.2.2.2.2.2.2.2.2.2.2.2.2.2.2.2.2.2.2.2.2.2.2.2.2.2.2.2.2.2.2.2.2.2.2.2.2.2.2.2.2.2.2.2.2.2.2.2.2.2.2.2.2.2.2.2.1 r21.2.2.2.2.2.2.2.2.2.2.2.2.2.2.2.2.2.2.2.2.2.2.2.2.2.2.2.2.2.2.2.2.2.2.2.2.2.2.2.2.2.2.2.2.2.2.2.2.2.2.2.2.2.2.2.2.2.1 r21.2.2.2.2.2.2.2.2.2.2.2.2.2.2.2.2.2.2.2.2.2.2.2.2.2.2.2.2.2.2.2.2.2.2.2.2.2.2.2.2.2.2.2.2.2.2.2.2.2.2.2.2.2.2.2.2.2.2.1 r21.2.2.2.2.2.2.2.2.2.2.2.2.2.2.2.2.2.2.2.2.2.2.2.2.2.2.2.2.2.2.2.2.2.2.2.2.2.2.2.2.2.2.2.2.2.2.2.2.2.2.2.2.2.2.2.2.2.2.2.1 r21.2.2.2.2.2.2.2.2.2.2.2.2.2.2.2.2.2.2.2.2.2.2.2.2.2.2.2.2.2.2.2.2.2.2.2.2.2.2.2.2.2.2.2.2.2.2.2.2.2.2.2.2.2.2.2.2.2.2.2.2.1 r21.2.2.2.2.2.2.2.2.2.2.2.2.2.2.2.2.2.2.2.2.2.2.2.2.2.2.2.2.2.2.2.2.2.2.2.2.2.2.2.2.2.2.2.2.2.2.2.2.2.2.2.2.2.2.2.2.2.2.2.2.2.1 r21.2.2.2.2.2.2.2.2.2.2.2.2.2.2.2.2.2.2.2.2.2.2.2.2.2.2.2.2.2.2.2.2.2.2.2.2.2.2.2.2.2.2.2.2.2.2.2.2.2.2.2.2.2.2.2.2.2.2.2.2.2.2.1 r21.2.2.2.2.2.2.2.2.2.2.2.2.2.2.2.2.2.2.2.2.2.2.2.2.2.2.2.2.2.2.2.2.2.2.2.2.2.2.2.2.2.2.2.2.2.2.2.2.2.2.2.2.2.2.2.2.2.2.2.2.2.2.2.1 r21.2.2.2.2.2.2.2.2.2.2.2.2.2.2.2.2.2.2.2.2.2.2.2.2.2.2.2.2.2.2.2.2.2.2.2.2.2.2.2.2.2.2.2.2.2.2.2.2.2.2.2.2.2.2.2.2.2.2.2.2.2.2.2.2.1 r21.2.2.2.2.2.2.2.2.2.2.2.2.2.2.2.2.2.2.2.2.2.2.2.2.2.2.2.2.2.2.2.2.2.2.2.2.2.2.2.2.2.2.2.2.2.2.2.2.2.2.2.2.2.2.2.2.2.2.2.2.2.2.2.2.2.1 r21.2.2.2.2.2.2.2.2.2.2.2.2.2.2.2.2.2.2.2.2.2.2.2.2.2.2.2.2.2.2.2.2.2.2.2.2.2.2.2.2.2.2.2.2.2.2.2.2.2.2.2.2.2.2.2.2.2.2.2.2.2.2.2.2.2.2.1 r21.2.2.2.2.2.2.2.2.2.2.2.2.2.2.2.2.2.2.2.2.2.2.2.2.2.2.2.2.2.2.2.2.2.2.2.2.2.2.2.2.2.2.2.2.2.2.2.2.2.2.2.2.2.2.2.2.2.2.2.2.2.2.2.2.2.2.2.1 r21.2.2.2.2.2.2.2.2.2.2.2.2.2.2.2.2.2.2.2.2.2.2.2.2.2.2.2.2.2.2.2.2.2.2.2.2.2.2.2.2.2.2.2.2.2.2.2.2.2.2.2.2.2.2.2.2.2.2.2.2.2.2.2.2.2.2.2.2.1 r21.2.2.2.2.2.2.2.2.2.2.2.2.2.2.2.2.2.2.2.2.2.2.2.2.2.2.2.2.2.2.2.2.2.2.2.2.2.2.2.2.2.2.2.2.2.2.2.2.2.2.2.2.2.2.2.2.2.2.2.2.2.2.2.2.2.2.2.2.2.1 r21.2.2.2.2.2.2.2.2.2.2.2.2.2.2.2.2.2.2.2.2.2.2.2.2.2.2.2.2.2.2.2.2.2.2.2.2.2.2.2.2.2.2.2.2.2.2.2.2.2.2.2.2.2.2.2.2.2.2.2.2.2.2.2.2.2.2.2.2.2.2.1 r21.2.2.2.2.2.2.2.2.2.2.2.2.2.2.2.2.2.2.2.2.2.2.2.2.2.2.2.2.2.2.2.2.2.2.2.2.2.2.2.2.2.2.2.2.2.2.2.2.2.2.2.2.2.2.2.2.2.2.2.2.2.2.2.2.2.2.2.2.2.2.2.1 r21.2.2.2.2.2.2.2.2.2.2.2.2.2.2.2.2.2.2.2.2.2.2.2.2.2.2.2.2.2.2.2.2.2.2.2.2.2.2.2.2.2.2.2.2.2.2.2.2.2.2.2.2.2.2.2.2.2.2.2.2.2.2.2.2.2.2.2.2.2.2.2.2.1 r21.2.2.2.2.2.2.2.2.2.2.2.2.2.2.2.2.2.2.2.2.2.2.2.2.2.2.2.2.2.2.2.2.2.2.2.2.2.2.2.2.2.2.2.2.2.2.2.2.2.2.2.2.2.2.2.2.2.2.2.2.2.2.2.2.2.2.2.2.2.2.2.2.2.1 r21.2.2.2.2.2.2.2.2.2.2.2.2.2.2.2.2.2.2.2.2.2.2.2.2.2.2.2.2.2.2.2.2.2.2.2.2.2.2.2.2.2.2.2.2.2.2.2.2.2.2.2.2.2.2.2.2.2.2.2.2.2.2.2.2.2.2.2.2.2.2.2.2.2.2.1 r21.2.2.2.2.2.2.2.2.2.2.2.2.2.2.2.2.2.2.2.2.2.2.2.2.2.2.2.2.2.2.2.2.2.2.2.2.2.2.2.2.2.2.2.2.2.2.2.2.2.2.2.2.2.2.2.2.2.2.2.2.2.2.2.2.2.2.2.2.2.2.2.2.2.2.2.1 r21.2.2.2.2.2.2.2.2.2.2.2.2.2.2.2.2.2.2.2.2.2.2.2.2.2.2.2.2.2.2.2.2.2.2.2.2.2.2.2.2.2.2.2.2.2.2.2.2.2.2.2.2.2.2.2.2.2.2.2.2.2.2.2.2.2.2.2.2.2.2.2.2.2.2.2.2.1 r21.2.2.2.2.2.2.2.2.2.2.2.2.2.2.2.2.2.2.2.2.2.2.2.2.2.2.2.2.2.2.2.2.2.2.2.2.2.2.2.2.2.2.2.2.2.2.2.2.2.2.2.2.2.2.2.2.2.2.2.2.2.2.2.2.2.2.2.2.2.2.2.2.2.2.2.2.2.1 r21.2.2.2.2.2.2.2.2.2.2.2.2.2.2.2.2.2.2.2.2.2.2.2.2.2.2.2.2.2.2.2.2.2.2.2.2.2.2.2.2.2.2.2.2.2.2.2.2.2.2.2.2.2.2.2.2.2.2.2.2.2.2.2.2.2.2.2.2.2.2.2.2.2.2.2.2.2.2.1 r21.2.2.2.2.2.2.2.2.2.2.2.2.2.2.2.2.2.2.2.2.2.2.2.2.2.2.2.2.2.2.2.2.2.2.2.2.2.2.2.2.2.2.2.2.2.2.2.2.2.2.2.2.2.2.2.2.2.2.2.2.2.2.2.2.2.2.2.2.2.2.2.2.2.2.2.2.2.2.2.1 r21.2.2.2.2.2.2.2.2.2.2.2.2.2.2.2.2.2.2.2.2.2.2.2.2.2.2.2.2.2.2.2.2.2.2.2.2.2.2.2.2.2.2.2.2.2.2.2.2.2.2.2.2.2.2.2.2.2.2.2.2.2.2.2.2.2.2.2.2.2.2.2.2.2.2.2.2.2.2.2.2.1 r21.2.2.2.2.2.2.2.2.2.2.2.2.2.2.2.2.2.2.2.2.2.2.2.2.2.2.2.2.2.2.2.2.2.2.2.2.2.2.2.2.2.2.2.2.2.2.2.2.2.2.2.2.2.2.2.2.2.2.2.2.2.2.2.2.2.2.2.2.2.2.2.2.2.2.2.2.2.2.2.2.2.1 r21.2.2.2.2.2.2.2.2.2.2.2.2.2.2.2.2.2.2.2.2.2.2.2.2.2.2.2.2.2.2.2.2.2.2.2.2.2.2.2.2.2.2.2.2.2.2.2.2.2.2.2.2.2.2.2.2.2.2.2.2.2.2.2.2.2.2.2.2.2.2.2.2.2.2.2.2.2.2.2.2.2.2.1 r21.2.2.2.2.2.2.2.2.2.2.2.2.2.2.2.2.2.2.2.2.2.2.2.2.2.2.2.2.2.2.2.2.2.2.2.2.2.2.2.2.2.2.2.2.2.2.2.2.2.2.2.2.2.2.2.2.2.2.2.2.2.2.2.2.2.2.2.2.2.2.2.2.2.2.2.2.2.2.2.2.2.2.2.1 r21.2.2.2.2.2.2.2.2.2.2.2.2.2.2.2.2.2.2.2.2.2.2.2.2.2.2.2.2.2.2.2.2.2.2.2.2.2.2.2.2.2.2.2.2.2.2.2.2.2.2.2.2.2.2.2.2.2.2.2.2.2.2.2.2.2.2.2.2.2.2.2.2.2.2.2.2.2.2.2.2.2.2.2.2.1 r21.2.2.2.2.2.2.2.2.2.2.2.2.2.2.2.2.2.2.2.2.2.2.2.2.2.2.2.2.2.2.2.2.2.2.2.2.2.2.2.2.2.2.2.2.2.2.2.2.2.2.2.2.2.2.2.2.2.2.2.2.2.2.2.2.2.2.2.2.2.2.2.2.2.2.2.2.2.2.2.2.2.2.2.2.2.1 r21.2.2.2.2.2.2.2.2.2.2.2.2.2.2.2.2.2.2.2.2.2.2.2.2.2.2.2.2.2.2.2.2.2.2.2.2.2.2.2.2.2.2.2.2.2.2.2.2.2.2.2.2.2.2.2.2.2.2.2.2.2.2.2.2.2.2.2.2.2.2.2.2.2.2.2.2.2.2.2.2.2.2.2.2.2.2.1 r21.2.2.2.2.2.2.2.2.2.2.2.2.2.2.2.2.2.2.2.2.2.2.2.2.2.2.2.2.2.2.2.2.2.2.2.2.2.2.2.2.2.2.2.2.2.2.2.2.2.2.2.2.2.2.2.2.2.2.2.2.2.2.2.2.2.2.2.2.2.2.2.2.2.2.2.2.2.2.2.2.2.2.2.2.2.2.2.1 r21.2.2.2.2.2.2.2.2.2.2.2.2.2.2.2.2.2.2.2.2.2.2.2.2.2.2.2.2.2.2.2.2.2.2.2.2.2.2.2.2.2.2.2.2.2.2.2.2.2.2.2.2.2.2.2.2.2.2.2.2.2.2.2.2.2.2.2.2.2.2.2.2.2.2.2.2.2.2.2.2.2.2.2.2.2.2.2.2.1 r21.2.2.2.2.2.2.2.2.2.2.2.2.2.2.2.2.2.2.2.2.2.2.2.2.2.2.2.2.2.2.2.2.2.2.2.2.2.2.2.2.2.2.2.2.2.2.2.2.2.2.2.2.2.2.2.2.2.2.2.2.2.2.2.2.2.2.2.2.2.2.2.2.2.2.2.2.2.2.2.2.2.2.2.2.2.2.2.2.2.1 r21.2.2.2.2.2.2.2.2.2.2.2.2.2.2.2.2.2.2.2.2.2.2.2.2.2.2.2.2.2.2.2.2.2.2.2.2.2.2.2.2.2.2.2.2.2.2.2.2.2.2.2.2.2.2.2.2.2.2.2.2.2.2.2.2.2.2.2.2.2.2.2.2.2.2.2.2.2.2.2.2.2.2.2.2.2.2.2.2.2.2.1 r21.2.2.2.2.2.2.2.2.2.2.2.2.2.2.2.2.2.2.2.2.2.2.2.2.2.2.2.2.2.2.2.2.2.2.2.2.2.2.2.2.2.2.2.2.2.2.2.2.2.2.2.2.2.2.2.2.2.2.2.2.2.2.2.2.2.2.2.2.2.2.2.2.2.2.2.2.2.2.2.2.2.2.2.2.2.2.2.2.2.2.2.1 r21.2.2.2.2.2.2.2.2.2.2.2.2.2.2.2.2.2.2.2.2.2.2.2.2.2.2.2.2.2.2.2.2.2.2.2.2.2.2.2.2.2.2.2.2.2.2.2.2.2.2.2.2.2.2.2.2.2.2.2.2.2.2.2.2.2.2.2.2.2.2.2.2.2.2.2.2.2.2.2.2.2.2.2.2.2.2.2.2.2.2.2.2.1 r21.2.2.2.2.2.2.2.2.2.2.2.2.2.2.2.2.2.2.2.2.2.2.2.2.2.2.2.2.2.2.2.2.2.2.2.2.2.2.2.2.2.2.2.2.2.2.2.2.2.2.2.2.2.2.2.2.2.2.2.2.2.2.2.2.2.2.2.2.2.2.2.2.2.2.2.2.2.2.2.2.2.2.2.2.2.2.2.2.2.2.2.2.2.1 r21.2.2.2.2.2.2.2.2.2.2.2.2.2.2.2.2.2.2.2.2.2.2.2.2.2.2.2.2.2.2.2.2.2.2.2.2.2.2.2.2.2.2.2.2.2.2.2.2.2.2.2.2.2.2.2.2.2.2.2.2.2.2.2.2.2.2.2.2.2.2.2.2.2.2.2.2.2.2.2.2.2.2.2.2.2.2.2.2.2.2.2.2.2.2.1 r21.2.2.2.2.2.2.2.2.2.2.2.2.2.2.2.2.2.2.2.2.2.2.2.2.2.2.2.2.2.2.2.2.2.2.2.2.2.2.2.2.2.2.2.2.2.2.2.2.2.2.2.2.2.2.2.2.2.2.2.2.2.2.2.2.2.2.2.2.2.2.2.2.2.2.2.2.2.2.2.2.2.2.2.2.2.2.2.2.2.2.2.2.2.2.2.1 r21.2.2.2.2.2.2.2.2.2.2.2.2.2.2.2.2.2.2.2.2.2.2.2.2.2.2.2.2.2.2.2.2.2.2.2.2.2.2.2.2.2.2.2.2.2.2.2.2.2.2.2.2.2.2.2.2.2.2.2.2.2.2.2.2.2.2.2.2.2.2.2.2.2.2.2.2.2.2.2.2.2.2.2.2.2.2.2.2.2.2.2.2.2.2.2.2.1 r21.2.2.2.2.2.2.2.2.2.2.2.2.2.2.2.2.2.2.2.2.2.2.2.2.2.2.2.2.2.2.2.2.2.2.2.2.2.2.2.2.2.2.2.2.2.2.2.2.2.2.2.2.2.2.2.2.2.2.2.2.2.2.2.2.2.2.2.2.2.2.2.2.2.2.2.2.2.2.2.2.2.2.2.2.2.2.2.2.2.2.2.2.2.2.2.2.2.1 r21.2.2.2.2.2.2.2.2.2.2.2.2.2.2.2.2.2.2.2.2.2.2.2.2.2.2.2.2.2.2.2.2.2.2.2.2.2.2.2.2.2.2.2.2.2.2.2.2.2.2.2.2.2.2.2.2.2.2.2.2.2.2.2.2.2.2.2.2.2.2.2.2.2.2.2.2.2.2.2.2.2.2.2.2.2.2.2.2.2.2.2.2.2.2.2.2.2.2.1 r21.2.2.2.2.2.2.2.2.2.2.2.2.2.2.2.2.2.2.2.2.2.2.2.2.2.2.2.2.2.2.2.2.2.2.2.2.2.2.2.2.2.2.2.2.2.2.2.2.2.2.2.2.2.2.2.2.2.2.2.2.2.2.2.2.2.2.2.2.2.2.2.2.2.2.2.2.2.2.2.2.2.2.2.2.2.2.2.2.2.2.2.2.2.2.2.2.2.2.2.1 r21.2.2.2.2.2.2.2.2.2.2.2.2.2.2.2.2.2.2.2.2.2.2.2.2.2.2.2.2.2.2.2.2.2.2.2.2.2.2.2.2.2.2.2.2.2.2.2.2.2.2.2.2.2.2.2.2.2.2.2.2.2.2.2.2.2.2.2.2.2.2.2.2.2.2.2.2.2.2.2.2.2.2.2.2.2.2.2.2.2.2.2.2.2.2.2.2.2.2.2.2.1 r21.2.2.2.2.2.2.2.2.2.2.2.2.2.2.2.2.2.2.2.2.2.2.2.2.2.2.2.2.2.2.2.2.2.2.2.2.2.2.2.2.2.2.2.2.2.2.2.2.2.2.2.2.2.2.2.2.2.2.2.2.2.2.2.2.2.2.2.2.2.2.2.2.2.2.2.2.2.2.2.2.2.2.2.2.2.2.2.2.2.2.2.2.2.2.2.2.2.2.2.2.2.1 r21.2.2.2.2.2.2.2.2.2.2.2.2.2.2.2.2.2.2.2.2.2.2.2.2.2.2.2.2.2.2.2.2.2.2.2.2.2.2.2.2.2.2.2.2.2.2.2.2.2.2.2.2.2.2.2.2.2.2.2.2.2.2.2.2.2.2.2.2.2.2.2.2.2.2.2.2.2.2.2.2.2.2.2.2.2.2.2.2.2.2.2.2.2.2.2.2.2.2.2.2.2.2.1 r21.2.2.2.2.2.2.2.2.2.2.2.2.2.2.2.2.2.2.2.2.2.2.2.2.2.2.2.2.2.2.2.2.2.2.2.2.2.2.2.2.2.2.2.2.2.2.2.2.2.2.2.2.2.2.2.2.2.2.2.2.2.2.2.2.2.2.2.2.2.2.2.2.2.2.2.2.2.2.2.2.2.2.2.2.2.2.2.2.2.2.2.2.2.2.2.2.2.2.2.2.2.2.2.1 r21.2.2.2.2.2.2.2.2.2.2.2.2.2.2.2.2.2.2.2.2.2.2.2.2.2.2.2.2.2.2.2.2.2.2.2.2.2.2.2.2.2.2.2.2.2.2.2.2.2.2.2.2.2.2.2.2.2.2.2.2.2.2.2.2.2.2.2.2.2.2.2.2.2.2.2.2.2.2.2.2.2.2.2.2.2.2.2.2.2.2.2.2.2.2.2.2.2.2.2.2.2.2.2.2.1 r21.2.2.2.2.2.2.2.2.2.2.2.2.2.2.2.2.2.2.2.2.2.2.2.2.2.2.2.2.2.2.2.2.2.2.2.2.2.2.2.2.2.2.2.2.2.2.2.2.2.2.2.2.2.2.2.2.2.2.2.2.2.2.2.2.2.2.2.2.2.2.2.2.2.2.2.2.2.2.2.2.2.2.2.2.2.2.2.2.2.2.2.2.2.2.2.2.2.2.2.2.2.2.2.2.2.1 r21.2.2.2.2.2.2.2.2.2.2.2.2.2.2.2.2.2.2.2.2.2.2.2.2.2.2.2.2.2.2.2.2.2.2.2.2.2.2.2.2.2.2.2.2.2.2.2.2.2.2.2.2.2.2.2.2.2.2.2.2.2.2.2.2.2.2.2.2.2.2.2.2.2.2.2.2.2.2.2.2.2.2.2.2.2.2.2.2.2.2.2.2.2.2.2.2.2.2.2.2.2.2.2.2.2.2.1 r21.2.2.2.2.2.2.2.2.2.2.2.2.2.2.2.2.2.2.2.2.2.2.2.2.2.2.2.2.2.2.2.2.2.2.2.2.2.2.2.2.2.2.2.2.2.2.2.2.2.2.2.2.2.2.2.2.2.2.2.2.2.2.2.2.2.2.2.2.2.2.2.2.2.2.2.2.2.2.2.2.2.2.2.2.2.2.2.2.2.2.2.2.2.2.2.2.2.2.2.2.2.2.2.2.2.2.2.1 r21.2.2.2.2.2.2.2.2.2.2.2.2.2.2.2.2.2.2.2.2.2.2.2.2.2.2.2.2.2.2.2.2.2.2.2.2.2.2.2.2.2.2.2.2.2.2.2.2.2.2.2.2.2.2.2.2.2.2.2.2.2.2.2.2.2.2.2.2.2.2.2.2.2.2.2.2.2.2.2.2.2.2.2.2.2.2.2.2.2.2.2.2.2.2.2.2.2.2.2.2.2.2.2.2.2.2.2.2.1 r21.2.2.2.2.2.2.2.2.2.2.2.2.2.2.2.2.2.2.2.2.2.2.2.2.2.2.2.2.2.2.2.2.2.2.2.2.2.2.2.2.2.2.2.2.2.2.2.2.2.2.2.2.2.2.2.2.2.2.2.2.2.2.2.2.2.2.2.2.2.2.2.2.2.2.2.2.2.2.2.2.2.2.2.2.2.2.2.2.2.2.2.2.2.2.2.2.2.2.2.2.2.2.2.2.2.2.2.2.2.1 r21.2.2.2.2.2.2.2.2.2.2.2.2.2.2.2.2.2.2.2.2.2.2.2.2.2.2.2.2.2.2.2.2.2.2.2.2.2.2.2.2.2.2.2.2.2.2.2.2.2.2.2.2.2.2.2.2.2.2.2.2.2.2.2.2.2.2.2.2.2.2.2.2.2.2.2.2.2.2.2.2.2.2.2.2.2.2.2.2.2.2.2.2.2.2.2.2.2.2.2.2.2.2.2.2.2.2.2.2.2.2.1 r21.2.2.2.2.2.2.2.2.2.2.2.2.2.2.2.2.2.2.2.2.2.2.2.2.2.2.2.2.2.2.2.2.2.2.2.2.2.2.2.2.2.2.2.2.2.2.2.2.2.2.2.2.2.2.2.2.2.2.2.2.2.2.2.2.2.2.2.2.2.2.2.2.2.2.2.2.2.2.2.2.2.2.2.2.2.2.2.2.2.2.2.2.2.2.2.2.2.2.2.2.2.2.2.2.2.2.2.2.2.2.2.1 r21.2.2.2.2.2.2.2.2.2.2.2.2.2.2.2.2.2.2.2.2.2.2.2.2.2.2.2.2.2.2.2.2.2.2.2.2.2.2.2.2.2.2.2.2.2.2.2.2.2.2.2.2.2.2.2.2.2.2.2.2.2.2.2.2.2.2.2.2.2.2.2.2.2.2.2.2.2.2.2.2.2.2.2.2.2.2.2.2.2.2.2.2.2.2.2.2.2.2.2.2.2.2.2.2.2.2.2.2.2.2.2.2.1 r21.2.2.2.2.2.2.2.2.2.2.2.2.2.2.2.2.2.2.2.2.2.2.2.2.2.2.2.2.2.2.2.2.2.2.2.2.2.2.2.2.2.2.2.2.2.2.2.2.2.2.2.2.2.2.2.2.2.2.2.2.2.2.2.2.2.2.2.2.2.2.2.2.2.2.2.2.2.2.2.2.2.2.2.2.2.2.2.2.2.2.2.2.2.2.2.2.2.2.2.2.2.2.2.2.2.2.2.2.2.2.2.2.2.1 r21.2.2.2.2.2.2.2.2.2.2.2.2.2.2.2.2.2.2.2.2.2.2.2.2.2.2.2.2.2.2.2.2.2.2.2.2.2.2.2.2.2.2.2.2.2.2.2.2.2.2.2.2.2.2.2.2.2.2.2.2.2.2.2.2.2.2.2.2.2.2.2.2.2.2.2.2.2.2.2.2.2.2.2.2.2.2.2.2.2.2.2.2.2.2.2.2.2.2.2.2.2.2.2.2.2.2.2.2.2.2.2.2.2.2.1 r21.2.2.2.2.2.2.2.2.2.2.2.2.2.2.2.2.2.2.2.2.2.2.2.2.2.2.2.2.2.2.2.2.2.2.2.2.2.2.2.2.2.2.2.2.2.2.2.2.2.2.2.2.2.2.2.2.2.2.2.2.2.2.2.2.2.2.2.2.2.2.2.2.2.2.2.2.2.2.2.2.2.2.2.2.2.2.2.2.2.2.2.2.2.2.2.2.2.2.2.2.2.2.2.2.2.2.2.2.2.2.2.2.2.2.2.1 r21.2.2.2.2.2.2.2.2.2.2.2.2.2.2.2.2.2.2.2.2.2.2.2.2.2.2.2.2.2.2.2.2.2.2.2.2.2.2.2.2.2.2.2.2.2.2.2.2.2.2.2.2.2.2.2.2.2.2.2.2.2.2.2.2.2.2.2.2.2.2.2.2.2.2.2.2.2.2.2.2.2.2.2.2.2.2.2.2.2.2.2.2.2.2.2.2.2.2.2.2.2.2.2.2.2.2.2.2.2.2.2.2.2.2.2.2.1 r21.2.2.2.2.2.2.2.2.2.2.2.2.2.2.2.2.2.2.2.2.2.2.2.2.2.2.2.2.2.2.2.2.2.2.2.2.2.2.2.2.2.2.2.2.2.2.2.2.2.2.2.2.2.2.2.2.2.2.2.2.2.2.2.2.2.2.2.2.2.2.2.2.2.2.2.2.2.2.2.2.2.2.2.2.2.2.2.2.2.2.2.2.2.2.2.2.2.2.2.2.2.2.2.2.2.2.2.2.2.2.2.2.2.2.2.2.2.1 r21.2.2.2.2.2.2.2.2.2.2.2.2.2.2.2.2.2.2.2.2.2.2.2.2.2.2.2.2.2.2.2.2.2.2.2.2.2.2.2.2.2.2.2.2.2.2.2.2.2.2.2.2.2.2.2.2.2.2.2.2.2.2.2.2.2.2.2.2.2.2.2.2.2.2.2.2.2.2.2.2.2.2.2.2.2.2.2.2.2.2.2.2.2.2.2.2.2.2.2.2.2.2.2.2.2.2.2.2.2.2.2.2.2.2.2.2.2.2.1 r21.2.2.2.2.2.2.2.2.2.2.2.2.2.2.2.2.2.2.2.2.2.2.2.2.2.2.2.2.2.2.2.2.2.2.2.2.2.2.2.2.2.2.2.2.2.2.2.2.2.2.2.2.2.2.2.2.2.2.2.2.2.2.2.2.2.2.2.2.2.2.2.2.2.2.2.2.2.2.2.2.2.2.2.2.2.2.2.2.2.2.2.2.2.2.2.2.2.2.2.2.2.2.2.2.2.2.2.2.2.2.2.2.2.2.2.2.2.2.2.1 r21.2.2.2.2.2.2.2.2.2.2.2.2.2.2.2.2.2.2.2.2.2.2.2.2.2.2.2.2.2.2.2.2.2.2.2.2.2.2.2.2.2.2.2.2.2.2.2.2.2.2.2.2.2.2.2.2.2.2.2.2.2.2.2.2.2.2.2.2.2.2.2.2.2.2.2.2.2.2.2.2.2.2.2.2.2.2.2.2.2.2.2.2.2.2.2.2.2.2.2.2.2.2.2.2.2.2.2.2.2.2.2.2.2.2.2.2.2.2.2.2.1 r21.2.2.2.2.2.2.2.2.2.2.2.2.2.2.2.2.2.2.2.2.2.2.2.2.2.2.2.2.2.2.2.2.2.2.2.2.2.2.2.2.2.2.2.2.2.2.2.2.2.2.2.2.2.2.2.2.2.2.2.2.2.2.2.2.2.2.2.2.2.2.2.2.2.2.2.2.2.2.2.2.2.2.2.2.2.2.2.2.2.2.2.2.2.2.2.2.2.2.2.2.2.2.2.2.2.2.2.2.2.2.2.2.2.2.2.2.2.2.2.2.2.1 r21.2.2.2.2.2.2.2.2.2.2.2.2.2.2.2.2.2.2.2.2.2.2.2.2.2.2.2.2.2.2.2.2.2.2.2.2.2.2.2.2.2.2.2.2.2.2.2.2.2.2.2.2.2.2.2.2.2.2.2.2.2.2.2.2.2.2.2.2.2.2.2.2.2.2.2.2.2.2.2.2.2.2.2.2.2.2.2.2.2.2.2.2.2.2.2.2.2.2.2.2.2.2.2.2.2.2.2.2.2.2.2.2.2.2.2.2.2.2.2.2.2.2.1 r21.2.2.2.2.2.2.2.2.2.2.2.2.2.2.2.2.2.2.2.2.2.2.2.2.2.2.2.2.2.2.2.2.2.2.2.2.2.2.2.2.2.2.2.2.2.2.2.2.2.2.2.2.2.2.2.2.2.2.2.2.2.2.2.2.2.2.2.2.2.2.2.2.2.2.2.2.2.2.2.2.2.2.2.2.2.2.2.2.2.2.2.2.2.2.2.2.2.2.2.2.2.2.2.2.2.2.2.2.2.2.2.2.2.2.2.2.2.2.2.2.2.2.2.1 r21.2.2.2.2.2.2.2.2.2.2.2.2.2.2.2.2.2.2.2.2.2.2.2.2.2.2.2.2.2.2.2.2.2.2.2.2.2.2.2.2.2.2.2.2.2.2.2.2.2.2.2.2.2.2.2.2.2.2.2.2.2.2.2.2.2.2.2.2.2.2.2.2.2.2.2.2.2.2.2.2.2.2.2.2.2.2.2.2.2.2.2.2.2.2.2.2.2.2.2.2.2.2.2.2.2.2.2.2.2.2.2.2.2.2.2.2.2.2.2.2.2.2.2.2.1 r21.2.2.2.2.2.2.2.2.2.2.2.2.2.2.2.2.2.2.2.2.2.2.2.2.2.2.2.2.2.2.2.2.2.2.2.2.2.2.2.2.2.2.2.2.2.2.2.2.2.2.2.2.2.2.2.2.2.2.2.2.2.2.2.2.2.2.2.2.2.2.2.2.2.2.2.2.2.2.2.2.2.2.2.2.2.2.2.2.2.2.2.2.2.2.2.2.2.2.2.2.2.2.2.2.2.2.2.2.2.2.2.2.2.2.2.2.2.2.2.2.2.2.2.2.2.1 r21.2.2.2.2.2.2.2.2.2.2.2.2.2.2.2.2.2.2.2.2.2.2.2.2.2.2.2.2.2.2.2.2.2.2.2.2.2.2.2.2.2.2.2.2.2.2.2.2.2.2.2.2.2.2.2.2.2.2.2.2.2.2.2.2.2.2.2.2.2.2.2.2.2.2.2.2.2.2.2.2.2.2.2.2.2.2.2.2.2.2.2.2.2.2.2.2.2.2.2.2.2.2.2.2.2.2.2.2.2.2.2.2.2.2.2.2.2.2.2.2.2.2.2.2.2.2.1 r21.2.2.2.2.2.2.2.2.2.2.2.2.2.2.2.2.2.2.2.2.2.2.2.2.2.2.2.2.2.2.2.2.2.2.2.2.2.2.2.2.2.2.2.2.2.2.2.2.2.2.2.2.2.2.2.2.2.2.2.2.2.2.2.2.2.2.2.2.2.2.2.2.2.2.2.2.2.2.2.2.2.2.2.2.2.2.2.2.2.2.2.2.2.2.2.2.2.2.2.2.2.2.2.2.2.2.2.2.2.2.2.2.2.2.2.2.2.2.2.2.2.2.2.2.2.2.2.1 r21.2.2.2.2.2.2.2.2.2.2.2.2.2.2.2.2.2.2.2.2.2.2.2.2.2.2.2.2.2.2.2.2.2.2.2.2.2.2.2.2.2.2.2.2.2.2.2.2.2.2.2.2.2.2.2.2.2.2.2.2.2.2.2.2.2.2.2.2.2.2.2.2.2.2.2.2.2.2.2.2.2.2.2.2.2.2.2.2.2.2.2.2.2.2.2.2.2.2.2.2.2.2.2.2.2.2.2.2.2.2.2.2.2.2.2.2.2.2.2.2.2.2.2.2.2.2.2.2.1 r21.2.2.2.2.2.2.2.2.2.2.2.2.2.2.2.2.2.2.2.2.2.2.2.2.2.2.2.2.2.2.2.2.2.2.2.2.2.2.2.2.2.2.2.2.2.2.2.2.2.2.2.2.2.2.2.2.2.2.2.2.2.2.2.2.2.2.2.2.2.2.2.2.2.2.2.2.2.2.2.2.2.2.2.2.2.2.2.2.2.2.2.2.2.2.2.2.2.2.2.2.2.2.2.2.2.2.2.2.2.2.2.2.2.2.2.2.2.2.2.2.2.2.2.2.2.2.2.2.2.1 r21.2.2.2.2.2.2.2.2.2.2.2.2.2.2.2.2.2.2.2.2.2.2.2.2.2.2.2.2.2.2.2.2.2.2.2.2.2.2.2.2.2.2.2.2.2.2.2.2.2.2.2.2.2.2.2.2.2.2.2.2.2.2.2.2.2.2.2.2.2.2.2.2.2.2.2.2.2.2.2.2.2.2.2.2.2.2.2.2.2.2.2.2.2.2.2.2.2.2.2.2.2.2.2.2.2.2.2.2.2.2.2.2.2.2.2.2.2.2.2.2.2.2.2.2.2.2.2.2.2.2.1 r21.2.2.2.2.2.2.2.2.2.2.2.2.2.2.2.2.2.2.2.2.2.2.2.2.2.2.2.2.2.2.2.2.2.2.2.2.2.2.2.2.2.2.2.2.2.2.2.2.2.2.2.2.2.2.2.2.2.2.2.2.2.2.2.2.2.2.2.2.2.2.2.2.2.2.2.2.2.2.2.2.2.2.2.2.2.2.2.2.2.2.2.2.2.2.2.2.2.2.2.2.2.2.2.2.2.2.2.2.2.2.2.2.2.2.2.2.2.2.2.2.2.2.2.2.2.2.2.2.2.2.2.1 r21.2.2.2.2.2.2.2.2.2.2.2.2.2.2.2.2.2.2.2.2.2.2.2.2.2.2.2.2.2.2.2.2.2.2.2.2.2.2.2.2.2.2.2.2.2.2.2.2.2.2.2.2.2.2.2.2.2.2.2.2.2.2.2.2.2.2.2.2.2.2.2.2.2.2.2.2.2.2.2.2.2.2.2.2.2.2.2.2.2.2.2.2.2.2.2.2.2.2.2.2.2.2.2.2.2.2.2.2.2.2.2.2.2.2.2.2.2.2.2.2.2.2.2.2.2.2.2.2.2.2.2.2.1 r21.2.2.2.2.2.2.2.2.2.2.2.2.2.2.2.2.2.2.2.2.2.2.2.2.2.2.2.2.2.2.2.2.2.2.2.2.2.2.2.2.2.2.2.2.2.2.2.2.2.2.2.2.2.2.2.2.2.2.2.2.2.2.2.2.2.2.2.2.2.2.2.2.2.2.2.2.2.2.2.2.2.2.2.2.2.2.2.2.2.2.2.2.2.2.2.2.2.2.2.2.2.2.2.2.2.2.2.2.2.2.2.2.2.2.2.2.2.2.2.2.2.2.2.2.2.2.2.2.2.2.2.2.2.1 r21.2.2.2.2.2.2.2.2.2.2.2.2.2.2.2.2.2.2.2.2.2.2.2.2.2.2.2.2.2.2.2.2.2.2.2.2.2.2.2.2.2.2.2.2.2.2.2.2.2.2.2.2.2.2.2.2.2.2.2.2.2.2.2.2.2.2.2.2.2.2.2.2.2.2.2.2.2.2.2.2.2.2.2.2.2.2.2.2.2.2.2.2.2.2.2.2.2.2.2.2.2.2.2.2.2.2.2.2.2.2.2.2.2.2.2.2.2.2.2.2.2.2.2.2.2.2.2.2.2.2.2.2.2.2.1 r21.2.2.2.2.2.2.2.2.2.2.2.2.2.2.2.2.2.2.2.2.2.2.2.2.2.2.2.2.2.2.2.2.2.2.2.2.2.2.2.2.2.2.2.2.2.2.2.2.2.2.2.2.2.2.2.2.2.2.2.2.2.2.2.2.2.2.2.2.2.2.2.2.2.2.2.2.2.2.2.2.2.2.2.2.2.2.2.2.2.2.2.2.2.2.2.2.2.2.2.2.2.2.2.2.2.2.2.2.2.2.2.2.2.2.2.2.2.2.2.2.2.2.2.2.2.2.2.2.2.2.2.2.2.2.2.1 r21.2.2.2.2.2.2.2.2.2.2.2.2.2.2.2.2.2.2.2.2.2.2.2.2.2.2.2.2.2.2.2.2.2.2.2.2.2.2.2.2.2.2.2.2.2.2.2.2.2.2.2.2.2.2.2.2.2.2.2.2.2.2.2.2.2.2.2.2.2.2.2.2.2.2.2.2.2.2.2.2.2.2.2.2.2.2.2.2.2.2.2.2.2.2.2.2.2.2.2.2.2.2.2.2.2.2.2.2.2.2.2.2.2.2.2.2.2.2.2.2.2.2.2.2.2.2.2.2.2.2.2.2.2.2.2.2.1 r21.2.2.2.2.2.2.2.2.2.2.2.2.2.2.2.2.2.2.2.2.2.2.2.2.2.2.2.2.2.2.2.2.2.2.2.2.2.2.2.2.2.2.2.2.2.2.2.2.2.2.2.2.2.2.2.2.2.2.2.2.2.2.2.2.2.2.2.2.2.2.2.2.2.2.2.2.2.2.2.2.2.2.2.2.2.2.2.2.2.2.2.2.2.2.2.2.2.2.2.2.2.2.2.2.2.2.2.2.2.2.2.2.2.2.2.2.2.2.2.2.2.2.2.2.2.2.2.2.2.2.2.2.2.2.2.2.2.1 r21.2.2.2.2.2.2.2.2.2.2.2.2.2.2.2.2.2.2.2.2.2.2.2.2.2.2.2.2.2.2.2.2.2.2.2.2.2.2.2.2.2.2.2.2.2.2.2.2.2.2.2.2.2.2.2.2.2.2.2.2.2.2.2.2.2.2.2.2.2.2.2.2.2.2.2.2.2.2.2.2.2.2.2.2.2.2.2.2.2.2.2.2.2.2.2.2.2.2.2.2.2.2.2.2.2.2.2.2.2.2.2.2.2.2.2.2.2.2.2.2.2.2.2.2.2.2.2.2.2.2.2.2.2.2.2.2.2.2.1 r21.2.2.2.2.2.2.2.2.2.2.2.2.2.2.2.2.2.2.2.2.2.2.2.2.2.2.2.2.2.2.2.2.2.2.2.2.2.2.2.2.2.2.2.2.2.2.2.2.2.2.2.2.2.2.2.2.2.2.2.2.2.2.2.2.2.2.2.2.2.2.2.2.2.2.2.2.2.2.2.2.2.2.2.2.2.2.2.2.2.2.2.2.2.2.2.2.2.2.2.2.2.2.2.2.2.2.2.2.2.2.2.2.2.2.2.2.2.2.2.2.2.2.2.2.2.2.2.2.2.2.2.2.2.2.2.2.2.2.2.1 r21.2.2.2.2.2.2.2.2.2.2.2.2.2.2.2.2.2.2.2.2.2.2.2.2.2.2.2.2.2.2.2.2.2.2.2.2.2.2.2.2.2.2.2.2.2.2.2.2.2.2.2.2.2.2.2.2.2.2.2.2.2.2.2.2.2.2.2.2.2.2.2.2.2.2.2.2.2.2.2.2.2.2.2.2.2.2.2.2.2.2.2.2.2.2.2.2.2.2.2.2.2.2.2.2.2.2.2.2.2.2.2.2.2.2.2.2.2.2.2.2.2.2.2.2.2.2.2.2.2.2.2.2.2.2.2.2.2.2.2.2.1 r21.2.2.2.2.2.2.2.2.2.2.2.2.2.2.2.2.2.2.2.2.2.2.2.2.2.2.2.2.2.2.2.2.2.2.2.2.2.2.2.2.2.2.2.2.2.2.2.2.2.2.2.2.2.2.2.2.2.2.2.2.2.2.2.2.2.2.2.2.2.2.2.2.2.2.2.2.2.2.2.2.2.2.2.2.2.2.2.2.2.2.2.2.2.2.2.2.2.2.2.2.2.2.2.2.2.2.2.2.2.2.2.2.2.2.2.2.2.2.2.2.2.2.2.2.2.2.2.2.2.2.2.2.2.2.2.2.2.2.2.2.2.1 r21.2.2.2.2.2.2.2.2.2.2.2.2.2.2.2.2.2.2.2.2.2.2.2.2.2.2.2.2.2.2.2.2.2.2.2.2.2.2.2.2.2.2.2.2.2.2.2.2.2.2.2.2.2.2.2.2.2.2.2.2.2.2.2.2.2.2.2.2.2.2.2.2.2.2.2.2.2.2.2.2.2.2.2.2.2.2.2.2.2.2.2.2.2.2.2.2.2.2.2.2.2.2.2.2.2.2.2.2.2.2.2.2.2.2.2.2.2.2.2.2.2.2.2.2.2.2.2.2.2.2.2.2.2.2.2.2.2.2.2.2.2.2.1 r21.2.2.2.2.2.2.2.2.2.2.2.2.2.2.2.2.2.2.2.2.2.2.2.2.2.2.2.2.2.2.2.2.2.2.2.2.2.2.2.2.2.2.2.2.2.2.2.2.2.2.2.2.2.2.2.2.2.2.2.2.2.2.2.2.2.2.2.2.2.2.2.2.2.2.2.2.2.2.2.2.2.2.2.2.2.2.2.2.2.2.2.2.2.2.2.2.2.2.2.2.2.2.2.2.2.2.2.2.2.2.2.2.2.2.2.2.2.2.2.2.2.2.2.2.2.2.2.2.2.2.2.2.2.2.2.2.2.2.2.2.2.2.2.1 r21.2.2.2.2.2.2.2.2.2.2.2.2.2.2.2.2.2.2.2.2.2.2.2.2.2.2.2.2.2.2.2.2.2.2.2.2.2.2.2.2.2.2.2.2.2.2.2.2.2.2.2.2.2.2.2.2.2.2.2.2.2.2.2.2.2.2.2.2.2.2.2.2.2.2.2.2.2.2.2.2.2.2.2.2.2.2.2.2.2.2.2.2.2.2.2.2.2.2.2.2.2.2.2.2.2.2.2.2.2.2.2.2.2.2.2.2.2.2.2.2.2.2.2.2.2.2.2.2.2.2.2.2.2.2.2.2.2.2.2.2.2.2.2.2.1 r21.2.2.2.2.2.2.2.2.2.2.2.2.2.2.2.2.2.2.2.2.2.2.2.2.2.2.2.2.2.2.2.2.2.2.2.2.2.2.2.2.2.2.2.2.2.2.2.2.2.2.2.2.2.2.2.2.2.2.2.2.2.2.2.2.2.2.2.2.2.2.2.2.2.2.2.2.2.2.2.2.2.2.2.2.2.2.2.2.2.2.2.2.2.2.2.2.2.2.2.2.2.2.2.2.2.2.2.2.2.2.2.2.2.2.2.2.2.2.2.2.2.2.2.2.2.2.2.2.2.2.2.2.2.2.2.2.2.2.2.2.2.2.2.2.2.1 r21.2.2.2.2.2.2.2.2.2.2.2.2.2.2.2.2.2.2.2.2.2.2.2.2.2.2.2.2.2.2.2.2.2.2.2.2.2.2.2.2.2.2.2.2.2.2.2.2.2.2.2.2.2.2.2.2.2.2.2.2.2.2.2.2.2.2.2.2.2.2.2.2.2.2.2.2.2.2.2.2.2.2.2.2.2.2.2.2.2.2.2.2.2.2.2.2.2.2.2.2.2.2.2.2.2.2.2.2.2.2.2.2.2.2.2.2.2.2.2.2.2.2.2.2.2.2.2.2.2.2.2.2.2.2.2.2.2.2.2.2.2.2.2.2.2.2.1 r21.2.2.2.2.2.2.2.2.2.2.2.2.2.2.2.2.2.2.2.2.2.2.2.2.2.2.2.2.2.2.2.2.2.2.2.2.2.2.2.2.2.2.2.2.2.2.2.2.2.2.2.2.2.2.2.2.2.2.2.2.2.2.2.2.2.2.2.2.2.2.2.2.2.2.2.2.2.2.2.2.2.2.2.2.2.2.2.2.2.2.2.2.2.2.2.2.2.2.2.2.2.2.2.2.2.2.2.2.2.2.2.2.2.2.2.2.2.2.2.2.2.2.2.2.2.2.2.2.2.2.2.2.2.2.2.2.2.2.2.2.2.2.2.2.2.2.2.1) fun q44=>
 osum q44 (fun s45=>
 some false) (fun r46=>
 some true))))
end Go.Proofs.Ytkacojopcajboaa.G
