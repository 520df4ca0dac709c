/- A part of the proof. -/
import Derived.Test.YtkacojopcajboaaMchA
set_option linter.unusedVariables false
set_option maxRecDepth 100000
def Go.Proofs.Ytkacojopcajboaa.M.F.lit (l:List Nat):ByteArray:=⟨(l.map UInt8.ofNat).toArray⟩
namespace Go.Proofs.Ytkacojopcajboaa.G
open Go Go.Proofs.Ytkacojopcajboaa.M
abbrev T1:=Int × Int × Int × Int
abbrev T2:=Int × Int × Int × Int × Int × Int × Int × Int
abbrev T3:=List (Int × Int × Int × Int × Int)
abbrev T4:=Int × Int × Int × Bool × List T1
abbrev T5:=Int × Int × Int × Int × Int × Int × Int
abbrev T6:=List (Int × Int × List T1)
abbrev T7:=Int × Int × Int × Int × Int × Int × (List T2) × T6 × (List T3) × List T4
abbrev T8:=List (Int × Int × Int × T1 × Int × Int × Int × Int)
abbrev T9:=List (Int × T5 × T5 × Int × Int × Int × Int × Int × Int × Int)
abbrev T10:=T5 × T5 × Int × Int × Int × Int × Int × Int × Int
abbrev T11:=T9 × Int × Int × T1 × Int × (List T4) × Int × Int × Int × Int × T7 × Int × Int × Int × Int × Int × Bool × (List T1) × Int × Int × Int × Int × Int × Int × Int × Int × Int × Int × Int × Int × Int × Int × Int × Int × Int × Int × Int × Int × Int × Int × Int × T8 × Bool × Int × Int × Int × Int × Int × Int × Int × Int × Int × Int × (List T2) × T6 × (List T3) × (List T4) × Int × Int × Unit
abbrev T12:=Int × Int × T1 × (List T2) × T6 × (List T3) × List T4
noncomputable def glazierlaw22_plain :Option T12:=
 some (2,(2,((0,(0,(0,0))),([(0,((-4),(0,(1,(0,(0,(0,0))))))),(4,(4,(0,(1,(0,(0,(0,0))))))),((-4),(4,(0,(1,(0,(0,(0,0)))))))],([],([[(1,(0,(0,(0,0))))]],[(0,(0,((-1),(false,[(0,(0,(1,2)))]))))]))))))
noncomputable def scene_Each (x0:T12):Option T7:=
 some (x0.1,(x0.2.1,(x0.2.2.1.1,(x0.2.2.1.2.1,(x0.2.2.1.2.2.1,(x0.2.2.1.2.2.2,x0.2.2.2))))))
noncomputable def clip_own (x0:List T2):Option (List T2):=
 bnd (F.len x0) fun v1=>
 bgd (F.fillOk 64 v1) (
 bnd (F.overN (F.fill v1 (0,(0,(0,(0,(0,(0,(0,0)))))))) x0) fun v2=>
 some (F.over (F.fill v1 (0,(0,(0,(0,(0,(0,(0,0)))))))) x0))
noncomputable def vec_Dist (x0:Int) (x1:T2):Option (Int):=
 bnd (F.lt x0 0) fun v2=>
 bite v2 (
 some 0) (
 bnd (F.ge x0 5) fun v3=>
 bite v3 (
 some 0) (
 bnd (F.mul .i64 4 x1.2.2.2.1) fun v4=>
 bnd (F.add .i64 x1.2.2.1 x1.2.2.2.1) fun v5=>
 bnd (F.add .i64 v4 x1.1) fun v6=>
 bnd (F.sub .i64 v4 x1.1) fun v7=>
 bnd (F.add .i64 v4 x1.2.1) fun v8=>
 bnd (F.sub .i64 v4 x1.2.1) fun v9=>
 obind (F.get [v5,v6,v7,v8,v9] x0) fun q10=>
 some q10))
noncomputable def vec_row (x0:T2):Option T2:=
 some x0
noncomputable def fixed_size (x0:Int):Option (Int):=
 bnd (F.neg .i64 x0) fun v1=>
 bnd (F.max x0 v1) fun v2=>
 bnd (F.conv .u64 v2) fun v3=>
 some v3
noncomputable def bits_Mul64 (x0 x1:Int):Option (Int × Int):=
 bnd (F.and .u64 x0 4294967295) fun v2=>
 bnd (F.shr .u64 x0 32) fun v3=>
 bnd (F.and .u64 x1 4294967295) fun v4=>
 bnd (F.shr .u64 x1 32) fun v5=>
 bnd (F.mul .u64 v2 v4) fun v6=>
 bnd (F.mul .u64 v3 v4) fun v7=>
 bnd (F.shr .u64 v6 32) fun v8=>
 bnd (F.add .u64 v7 v8) fun v9=>
 bnd (F.and .u64 v9 4294967295) fun v10=>
 bnd (F.shr .u64 v9 32) fun v11=>
 bnd (F.mul .u64 v2 v5) fun v12=>
 bnd (F.add .u64 v10 v12) fun v13=>
 bnd (F.mul .u64 v3 v5) fun v14=>
 bnd (F.add .u64 v14 v11) fun v15=>
 bnd (F.shr .u64 v13 32) fun v16=>
 bnd (F.add .u64 v15 v16) fun v17=>
 bnd (F.mul .u64 x0 x1) fun v18=>
 some (v17,v18)
noncomputable def bits_LeadingZeros64 (x0:Int):Option (Int):=
 none
noncomputable def bits_Div64_l1 (fl:Nat):Nat -> Int -> Int -> Int -> Int -> Int -> Int -> Int -> Int -> Int -> Option (Int × Int × Int × Int × Int × Int × Int × Int × Unit)
 | 0,_,_,_,_,_,_,_,_,_=>none
 | n + 1,x0,x1,x2,x3,x4,x5,x6,x7,x8=>
 bnd (F.ge x7 4294967296) fun v9=>
 bite v9 (
 bnd (F.sub .u64 x7 1) fun v10=>
 bnd (F.add .u64 x8 x2) fun v11=>
 bnd (F.ge v11 4294967296) fun v12=>
 bite v12 (
 some (x0,(x1,(x2,(x3,(x4,(x5,(x6,(v10,()))))))))) (
 bits_Div64_l1 fl n x0 x1 x2 x3 x4 x5 x6 v10 v11)) (
 bnd (F.mul .u64 x7 x3) fun v13=>
 bnd (F.mul .u64 4294967296 x8) fun v14=>
 bnd (F.add .u64 v14 x5) fun v15=>
 bnd (F.gt v13 v15) fun v16=>
 bite v16 (
 bnd (F.sub .u64 x7 1) fun v17=>
 bnd (F.add .u64 x8 x2) fun v18=>
 bnd (F.ge v18 4294967296) fun v19=>
 bite v19 (
 some (x0,(x1,(x2,(x3,(x4,(x5,(x6,(v17,()))))))))) (
 bits_Div64_l1 fl n x0 x1 x2 x3 x4 x5 x6 v17 v18)) (
 some (x0,(x1,(x2,(x3,(x4,(x5,(x6,(x7,()))))))))))
noncomputable def bits_Div64_l2 (fl:Nat):Nat -> Int -> Int -> Int -> Int -> Int -> Int -> Int -> Int -> Int -> Option (Int × Int × Int × Int × Int × Int × Unit)
 | 0,_,_,_,_,_,_,_,_,_=>none
 | n + 1,x0,x1,x2,x3,x4,x5,x6,x7,x8=>
 bnd (F.ge x8 4294967296) fun v9=>
 bite v9 (
 bnd (F.sub .u64 x8 1) fun v10=>
 bnd (F.add .u64 x6 x2) fun v11=>
 bnd (F.ge v11 4294967296) fun v12=>
 bite v12 (
 some (x0,(x1,(x4,(x5,(x7,(v10,()))))))) (
 bits_Div64_l2 fl n x0 x1 x2 x3 x4 x5 v11 x7 v10)) (
 bnd (F.mul .u64 x8 x3) fun v13=>
 bnd (F.mul .u64 4294967296 x6) fun v14=>
 bnd (F.add .u64 v14 x4) fun v15=>
 bnd (F.gt v13 v15) fun v16=>
 bite v16 (
 bnd (F.sub .u64 x8 1) fun v17=>
 bnd (F.add .u64 x6 x2) fun v18=>
 bnd (F.ge v18 4294967296) fun v19=>
 bite v19 (
 some (x0,(x1,(x4,(x5,(x7,(v17,()))))))) (
 bits_Div64_l2 fl n x0 x1 x2 x3 x4 x5 v18 x7 v17)) (
 some (x0,(x1,(x4,(x5,(x7,(x8,()))))))))
noncomputable def bits_Div64 (fl:Nat) (x0 x1 x2:Int):Option (Int × Int):=
 bnd (F.eq x2 0) fun v3=>
 bite v3 (
 none) (
 bnd (F.le x2 x0) fun v4=>
 bite v4 (
 none) (
 bnd (F.eq x0 0) fun v5=>
 bite v5 (
 bgd (F.nonzero x2) (
 bnd (F.quo .u64 x1 x2) fun v6=>
 bgd (F.nonzero x2) (
 bnd (F.rem x1 x2) fun v7=>
 some (v6,v7)))) (
 obind (bits_LeadingZeros64 x2) fun q8=>
 bnd (F.conv .u64 q8) fun v9=>
 bgd (F.nonneg v9) (
 bnd (F.shl .u64 x2 v9) fun v10=>
 bnd (F.shr .u64 v10 32) fun v11=>
 bnd (F.and .u64 v10 4294967295) fun v12=>
 bgd (F.nonneg v9) (
 bnd (F.shl .u64 x0 v9) fun v13=>
 bnd (F.sub .u64 64 v9) fun v14=>
 bgd (F.nonneg v14) (
 bnd (F.shr .u64 x1 v14) fun v15=>
 bnd (F.or .u64 v13 v15) fun v16=>
 bgd (F.nonneg v9) (
 bnd (F.shl .u64 x1 v9) fun v17=>
 bnd (F.shr .u64 v17 32) fun v18=>
 bnd (F.and .u64 v17 4294967295) fun v19=>
 bgd (F.nonzero v11) (
 bnd (F.quo .u64 v16 v11) fun v20=>
 bnd (F.mul .u64 v20 v11) fun v21=>
 bnd (F.sub .u64 v16 v21) fun v22=>
 obind (bits_Div64_l1 fl fl v10 v9 v11 v12 v16 v18 v19 v20 v22) fun q23=>
 bnd (F.mul .u64 q23.2.2.2.2.1 4294967296) fun v24=>
 bnd (F.add .u64 v24 q23.2.2.2.2.2.1) fun v25=>
 bnd (F.mul .u64 q23.2.2.2.2.2.2.2.1 q23.1) fun v26=>
 bnd (F.sub .u64 v25 v26) fun v27=>
 bgd (F.nonzero q23.2.2.1) (
 bnd (F.quo .u64 v27 q23.2.2.1) fun v28=>
 bnd (F.mul .u64 v28 q23.2.2.1) fun v29=>
 bnd (F.sub .u64 v27 v29) fun v30=>
 obind (bits_Div64_l2 fl fl q23.1 q23.2.1 q23.2.2.1 q23.2.2.2.1 q23.2.2.2.2.2.2.1 q23.2.2.2.2.2.2.2.1 v30 v27 v28) fun q31=>
 bnd (F.mul .u64 q31.2.2.2.1 4294967296) fun v32=>
 bnd (F.add .u64 v32 q31.2.2.2.2.2.1) fun v33=>
 bnd (F.mul .u64 q31.2.2.2.2.1 4294967296) fun v34=>
 bnd (F.add .u64 v34 q31.2.2.1) fun v35=>
 bnd (F.mul .u64 q31.2.2.2.2.2.1 q31.1) fun v36=>
 bnd (F.sub .u64 v35 v36) fun v37=>
 bgd (F.nonneg q31.2.1) (
 bnd (F.shr .u64 v37 q31.2.1) fun v38=>
 some (v33,v38)))))))))))
noncomputable def fixed_checked (x0:Int) (x1:Bool):Option (Int × Int):=
 bnd (F.not x1) fun v2=>
 bite v2 (
 some (0,2)) (
 some (x0,0))
noncomputable def fixed_signed (x0:Int) (x1:Bool):Option (Int × Int):=
 bite x1 (
 bnd (F.neg .u64 x0) fun v2=>
 bnd (F.conv .i64 v2) fun v3=>
 bnd (F.le x0 9223372036854775808) fun v4=>
 obind (fixed_checked v3 v4) fun q5=>
 some q5) (
 bnd (F.conv .i64 x0) fun v6=>
 bnd (F.le x0 9223372036854775807) fun v7=>
 obind (fixed_checked v6 v7) fun q8=>
 some q8)
noncomputable def fixed_MulDiv (fl:Nat) (x0 x1 x2:Int):Option (Int × Int):=
 bnd (F.eq x2 0) fun v3=>
 bite v3 (
 some (0,3)) (
 obind (fixed_size x0) fun q4=>
 obind (fixed_size x1) fun q5=>
 obind (bits_Mul64 q4 q5) fun q6=>
 obind (fixed_size x2) fun q7=>
 bnd (F.ge q6.1 q7) fun v8=>
 bite v8 (
 some (0,2)) (
 obind (bits_Div64 fl q6.1 q6.2 q7) fun q9=>
 bnd (F.lt x0 0) fun v10=>
 bnd (F.lt x1 0) fun v11=>
 bnd (F.bne v10 v11) fun v12=>
 bnd (F.lt x2 0) fun v13=>
 bnd (F.bne v12 v13) fun v14=>
 bite v14 (
 bnd (F.gt q9.2 0) fun v15=>
 bite v15 (
 bnd (F.add .u64 q9.1 1) fun v16=>
 bnd (F.eq v16 0) fun v17=>
 bite v17 (
 some (0,2)) (
 obind (fixed_signed v16 v14) fun q18=>
 some q18)) (
 obind (fixed_signed q9.1 v14) fun q19=>
 some q19)) (
 obind (fixed_signed q9.1 v14) fun q20=>
 some q20)))
noncomputable def vec_made (x0:T2):Option T2:=
 some x0
noncomputable def vec_Between (fl:Nat) (x0 x1:T2) (x2:Int):Option (T2 × Bool):=
 obind (vec_Dist x2 x0) fun q3=>
 obind (vec_Dist x2 x1) fun q4=>
 bnd (F.lt x2 0) fun v5=>
 bite v5 (
 some ((0,(0,(0,(0,(0,(0,(0,0))))))),false)) (
 bnd (F.ge x2 5) fun v6=>
 bite v6 (
 some ((0,(0,(0,(0,(0,(0,(0,0))))))),false)) (
 bnd (F.lt q3 0) fun v7=>
 bite v7 (
 some ((0,(0,(0,(0,(0,(0,(0,0))))))),false)) (
 bnd (F.ge q4 0) fun v8=>
 bite v8 (
 some ((0,(0,(0,(0,(0,(0,(0,0))))))),false)) (
 obind (vec_row x0) fun q9=>
 obind (vec_row x1) fun q10=>
 bnd (F.sub .i64 q10.1 q9.1) fun v11=>
 bnd (F.sub .i64 q3 q4) fun v12=>
 obind (fixed_MulDiv fl v11 q3 v12) fun q13=>
 bnd (F.add .i64 q9.1 q13.1) fun v14=>
 bnd (F.sub .i64 q10.2.1 q9.2.1) fun v15=>
 bnd (F.sub .i64 q3 q4) fun v16=>
 obind (fixed_MulDiv fl v15 q3 v16) fun q17=>
 bnd (F.add .i64 q9.2.1 q17.1) fun v18=>
 bnd (F.sub .i64 q10.2.2.1 q9.2.2.1) fun v19=>
 bnd (F.sub .i64 q3 q4) fun v20=>
 obind (fixed_MulDiv fl v19 q3 v20) fun q21=>
 bnd (F.add .i64 q9.2.2.1 q21.1) fun v22=>
 bnd (F.sub .i64 q10.2.2.2.1 q9.2.2.2.1) fun v23=>
 bnd (F.sub .i64 q3 q4) fun v24=>
 obind (fixed_MulDiv fl v23 q3 v24) fun q25=>
 bnd (F.add .i64 q9.2.2.2.1 q25.1) fun v26=>
 bnd (F.sub .i64 q10.2.2.2.2.1 q9.2.2.2.2.1) fun v27=>
 bnd (F.sub .i64 q3 q4) fun v28=>
 obind (fixed_MulDiv fl v27 q3 v28) fun q29=>
 bnd (F.add .i64 q9.2.2.2.2.1 q29.1) fun v30=>
 bnd (F.sub .i64 q10.2.2.2.2.2.1 q9.2.2.2.2.2.1) fun v31=>
 bnd (F.sub .i64 q3 q4) fun v32=>
 obind (fixed_MulDiv fl v31 q3 v32) fun q33=>
 bnd (F.add .i64 q9.2.2.2.2.2.1 q33.1) fun v34=>
 bnd (F.sub .i64 q10.2.2.2.2.2.2.1 q9.2.2.2.2.2.2.1) fun v35=>
 bnd (F.sub .i64 q3 q4) fun v36=>
 obind (fixed_MulDiv fl v35 q3 v36) fun q37=>
 bnd (F.add .i64 q9.2.2.2.2.2.2.1 q37.1) fun v38=>
 bnd (F.sub .i64 q10.2.2.2.2.2.2.2 q9.2.2.2.2.2.2.2) fun v39=>
 bnd (F.sub .i64 q3 q4) fun v40=>
 obind (fixed_MulDiv fl v39 q3 v40) fun q41=>
 bnd (F.add .i64 q9.2.2.2.2.2.2.2 q41.1) fun v42=>
 obind (vec_made (v14,(v18,(v22,(v26,(v30,(v34,(v38,v42)))))))) fun q43=>
 some (q43,true)))))
noncomputable def clip_By_l1 (fl:Nat):Nat -> Int -> (List T2) -> (List T2) -> (List T2) -> Int -> Int -> Option ((List T2) × Unit)
 | 0,_,_,_,_,_,_=>none
 | n + 1,x0,x1,x2,x3,x4,x5=>
 bnd (F.lt x5 x4) fun v6=>
 bite v6 (
 obind (F.get x3 x5) fun q7=>
 bnd (F.add .i64 x5 1) fun v8=>
 bnd (F.len x1) fun v9=>
 bgd (F.nonzero v9) (
 bnd (F.rem v8 v9) fun v10=>
 obind (F.get x1 v10) fun q11=>
 obind (vec_Dist x0 q7) fun q12=>
 bnd (F.ge q12 0) fun v13=>
 bite v13 (
 bgd (F.appOk 64 x2 [q7]) (
 bnd (F.app x2 [q7]) fun v14=>
 obind (vec_Between fl q7 q11 x0) fun q15=>
 bite q15.2 (
 bgd (F.appOk 64 v14 [q15.1]) (
 bnd (F.app v14 [q15.1]) fun v16=>
 bnd (F.add .i64 x5 1) fun v17=>
 clip_By_l1 fl n x0 x1 v16 x3 x4 v17)) (
 bnd (F.add .i64 x5 1) fun v18=>
 clip_By_l1 fl n x0 x1 v14 x3 x4 v18))) (
 obind (vec_Between fl q11 q7 x0) fun q19=>
 bite q19.2 (
 bgd (F.appOk 64 x2 [q19.1]) (
 bnd (F.app x2 [q19.1]) fun v20=>
 bnd (F.add .i64 x5 1) fun v21=>
 clip_By_l1 fl n x0 x1 v20 x3 x4 v21)) (
 bnd (F.add .i64 x5 1) fun v22=>
 clip_By_l1 fl n x0 x1 x2 x3 x4 v22)))) (
 some (x2,()))
noncomputable def clip_By (fl:Nat) (x0:Int) (x1:List T2):Option (List T2):=
 bnd (F.lt x0 0) fun v2=>
 bite v2 (
 obind (clip_own x1) fun q3=>
 some q3) (
 bnd (F.ge x0 5) fun v4=>
 bite v4 (
 obind (clip_own x1) fun q5=>
 some q5) (
 bnd (F.len x1) fun v6=>
 obind (clip_By_l1 fl fl x0 x1 [] x1 v6 0) fun q7=>
 some q7.1))
noncomputable def clip_Poly (fl:Nat) (x0:List T2):Option (List T2):=
 obind (clip_own x0) fun q1=>
 obind (clip_By fl 0 q1) fun q2=>
 obind (clip_By fl 1 q2) fun q3=>
 obind (clip_By fl 2 q3) fun q4=>
 obind (clip_By fl 3 q4) fun q5=>
 obind (clip_By fl 4 q5) fun q6=>
 bnd (F.len q6) fun v7=>
 bnd (F.lt v7 3) fun v8=>
 bite v8 (
 some []) (
 some q6)
noncomputable def view_Point_1 (fl:Nat) (x0 x1:Int) (x2:T2):Option (Int):=
 obind (fixed_MulDiv fl x0 x1 x2.2.2.2.1) fun q3=>
 bnd (F.add .i64 q3.1 x1) fun v4=>
 some v4
noncomputable def view_Point (fl:Nat) (x0 x1:Int) (x2:T2):Option (T5 × Bool):=
 bnd (F.min (F.min x0 x1) x2.2.2.2.1) fun v3=>
 bnd (F.lt v3 1) fun v4=>
 bite v4 (
 some ((0,(0,(0,(0,(0,(0,0)))))),false)) (
 bnd (F.max x0 x1) fun v5=>
 bnd (F.gt v5 64) fun v6=>
 bite v6 (
 some ((0,(0,(0,(0,(0,(0,0)))))),false)) (
 bnd (F.mul .i64 8 x0) fun v7=>
 obind (view_Point_1 fl x2.1 v7 x2) fun q8=>
 bnd (F.mul .i64 8 x1) fun v9=>
 obind (view_Point_1 fl x2.2.1 v9 x2) fun q10=>
 obind (view_Point_1 fl x2.2.2.1 32768 x2) fun q11=>
 some ((q8,(q10,(q11,x2.2.2.2.2))),true)))
noncomputable def view_Points_l1 (fl:Nat):Nat -> Int -> Int -> (List T5) -> (List T2) -> Int -> Int -> Option (((Unit) ⊕ ((List T5) × Unit)))
 | 0,_,_,_,_,_,_=>none
 | n + 1,x0,x1,x2,x3,x4,x5=>
 bnd (F.lt x5 x4) fun v6=>
 bite v6 (
 obind (F.get x3 x5) fun q7=>
 obind (view_Point fl x0 x1 q7) fun q8=>
 bnd (F.not q8.2) fun v9=>
 bite v9 (
 some (.inl ())) (
 bgd (F.appOk 56 x2 [q8.1]) (
 bnd (F.app x2 [q8.1]) fun v10=>
 bnd (F.add .i64 x5 1) fun v11=>
 view_Points_l1 fl n x0 x1 v10 x3 x4 v11))) (
 some (.inr (x2,())))
noncomputable def view_Points (fl:Nat) (x0 x1:Int) (x2:List T2):Option ((List T5) × Bool):=
 bnd (F.len x2) fun v3=>
 obind (view_Points_l1 fl fl x0 x1 [] x2 v3 0) fun q4=>
 osum q4 (fun s5=>
 some ([],false)) (fun r6=>
 some (r6.1,true))
noncomputable def edge_Cross (x0 x1:T5) (x2 x3:Int):Option (Int):=
 bnd (F.sub .i64 x1.1 x0.1) fun v4=>
 bnd (F.sub .i64 x3 x0.2.1) fun v5=>
 bnd (F.mul .i64 v4 v5) fun v6=>
 bnd (F.sub .i64 x1.2.1 x0.2.1) fun v7=>
 bnd (F.sub .i64 x2 x0.1) fun v8=>
 bnd (F.mul .i64 v7 v8) fun v9=>
 bnd (F.sub .i64 v6 v9) fun v10=>
 some v10
noncomputable def edge_Area (x0:T10):Option (Int):=
 obind (edge_Cross x0.1 x0.2.1 x0.2.2.1 x0.2.2.2.1) fun q1=>
 some q1
noncomputable def edge_Turned (x0:T10):Option (T10 × Bool):=
 obind (edge_Area x0) fun q1=>
 bnd (F.eq q1 0) fun v2=>
 bite v2 (
 some (((0,(0,(0,(0,(0,(0,0)))))),((0,(0,(0,(0,(0,(0,0)))))),(0,(0,(0,(0,(0,(0,0)))))))),false)) (
 bnd (F.lt q1 0) fun v3=>
 bite v3 (
 some ((x0.1,(x0.2.2,x0.2.1)),true)) (
 some (x0,true)))
noncomputable def setup_Parts_l1 (fl:Nat):Nat -> (List T5) -> T9 -> Int -> Option (T9 × Unit)
 | 0,_,_,_=>none
 | n + 1,x0,x1,x2=>
 bnd (F.len x0) fun v3=>
 bnd (F.lt x2 v3) fun v4=>
 bite v4 (
 obind (F.get x0 0) fun q5=>
 bnd (F.sub .i64 x2 1) fun v6=>
 obind (F.get x0 v6) fun q7=>
 obind (F.get x0 x2) fun q8=>
 obind (edge_Turned (q5,(q7,q8))) fun q9=>
 bite q9.2 (
 bnd (F.sub .i64 x2 2) fun v10=>
 bgd (F.appOk 176 x1 [(v10,q9.1)]) (
 bnd (F.app x1 [(v10,q9.1)]) fun v11=>
 bnd (F.add .i64 x2 1) fun v12=>
 setup_Parts_l1 fl n x0 v11 v12)) (
 bnd (F.add .i64 x2 1) fun v13=>
 setup_Parts_l1 fl n x0 x1 v13)) (
 some (x1,()))
noncomputable def setup_Parts (fl:Nat) (x0 x1:Int) (x2:T2 × T2 × Int × Int × Int × Int × Int × Int × Int × Int):Option T9:=
 obind (clip_Poly fl [x2.1,x2.2.1,x2.2.2]) fun q3=>
 obind (view_Points fl x0 x1 q3) fun q4=>
 obind (setup_Parts_l1 fl fl q4.1 [] 2) fun q5=>
 some q5.1
noncomputable def frags_Maker__parts (fl:Nat) (x0:Int × Int × Int × Int × Int × Int × (List T2) × T6 × (List T3) × (List T4) × Int × Int) (x1:T1):Option T9:=
 obind (F.get x0.2.2.2.2.2.2.1 x1.2.1) fun q2=>
 obind (F.get x0.2.2.2.2.2.2.1 x1.2.2.1) fun q3=>
 obind (F.get x0.2.2.2.2.2.2.1 x1.2.2.2) fun q4=>
 obind (setup_Parts fl x0.1 x0.2.1 (q2,(q3,q4))) fun q5=>
 some q5
noncomputable def fixed_Floor (fl:Nat) (x0 x1:Int):Option (Int × Int):=
 obind (fixed_MulDiv fl x0 1 x1) fun q2=>
 some q2
noncomputable def view_Pixel (fl:Nat) (x0:Int):Option (Int):=
 obind (fixed_Floor fl x0 16) fun q1=>
 some q1.1
noncomputable def setup_side (fl:Nat) (x0 x1:Int) (x2 x3:Int):Option (Int × Int):=
 bnd (F.min (F.min x1 x2) x3) fun v4=>
 obind (view_Pixel fl v4) fun q5=>
 bnd (F.max q5 0) fun v6=>
 bnd (F.max (F.max x1 x2) x3) fun v7=>
 obind (view_Pixel fl v7) fun q8=>
 bnd (F.add .i64 q8 1) fun v9=>
 bnd (F.min v9 x0) fun v10=>
 some (v6,v10)
noncomputable def setup_Box (fl:Nat) (x0 x1:Int) (x2:T10):Option T1:=
 obind (setup_side fl x0 x2.1.1 x2.2.1.1 x2.2.2.1) fun q3=>
 obind (setup_side fl x1 x2.1.2.1 x2.2.1.2.1 x2.2.2.2.1) fun q4=>
 some (q3.1,(q4.1,(q3.2,q4.2)))
noncomputable def setup_Pixels (x0 x1:Int) (x2 x3:Int):Option T1:=
 some (x1,(x3,(x0,x2)))
noncomputable def cover_Bits (x0:Int):Option (Int):=
 some x0
noncomputable def bits_TrailingZeros8 (x0:Int):Option (Int):=
 obind (F.get (F.bytes (F.lit [8,0,1,0,2,0,1,0,3,0,1,0,2,0,1,0,4,0,1,0,2,0,1,0,3,0,1,0,2,0,1,0,5,0,1,0,2,0,1,0,3,0,1,0,2,0,1,0,4,0,1,0,2,0,1,0,3,0,1,0,2,0,1,0,6,0,1,0,2,0,1,0,3,0,1,0,2,0,1,0,4,0,1,0,2,0,1,0,3,0,1,0,2,0,1,0,5,0,1,0,2,0,1,0,3,0,1,0,2,0,1,0,4,0,1,0,2,0,1,0,3,0,1,0,2,0,1,0,7,0,1,0,2,0,1,0,3,0,1,0,2,0,1,0,4,0,1,0,2,0,1,0,3,0,1,0,2,0,1,0,5,0,1,0,2,0,1,0,3,0,1,0,2,0,1,0,4,0,1,0,2,0,1,0,3,0,1,0,2,0,1,0,6,0,1,0,2,0,1,0,3,0,1,0,2,0,1,0,4,0,1,0,2,0,1,0,3,0,1,0,2,0,1,0,5,0,1,0,2,0,1,0,3,0,1,0,2,0,1,0,4,0,1,0,2,0,1,0,3,0,1,0,2,0,1,0])) x0) fun q1=>
 bnd (F.conv .i64 q1) fun v2=>
 some v2
noncomputable def cover_places (x0:Int):Option (Int × Int):=
 bnd (F.eq x0 0) fun v1=>
 bite v1 (
 some (2,6)) (
 bnd (F.eq x0 1) fun v2=>
 bite v2 (
 some (6,14)) (
 bnd (F.eq x0 2) fun v3=>
 bite v3 (
 some (10,2)) (
 some (14,10))))
noncomputable def cover_Sample (x0 x1 x2:Int):Option (Int × Int):=
 obind (cover_places x2) fun q3=>
 bnd (F.mul .i64 16 x0) fun v4=>
 bnd (F.add .i64 v4 q3.1) fun v5=>
 bnd (F.mul .i64 16 x1) fun v6=>
 bnd (F.add .i64 v6 q3.2) fun v7=>
 some (v5,v7)
noncomputable def edge_First (x0 x1:T5):Option (Bool):=
 bnd (F.eq x0.2.1 x1.2.1) fun v2=>
 bite v2 (
 bnd (F.gt x1.1 x0.1) fun v3=>
 some v3) (
 bnd (F.lt x1.2.1 x0.2.1) fun v4=>
 some v4)
noncomputable def edge_In_l1 (fl:Nat):Nat -> Int -> Int -> Int -> Int -> Int -> Int -> Int -> Int -> Int -> Int -> Int -> Int -> Int -> Int -> Int -> Int -> Int -> Int -> Int -> Int -> Int -> Int -> Int -> Int -> Option (((Unit) ⊕ (Unit)))
 | 0,_,_,_,_,_,_,_,_,_,_,_,_,_,_,_,_,_,_,_,_,_,_,_,_=>none
 | n + 1,x0,x1,x2,x3,x4,x5,x6,x7,x8,x9,x10,x11,x12,x13,x14,x15,x16,x17,x18,x19,x20,x21,x22,x23=>
 bnd (F.lt x2 3) fun v24=>
 bite v24 (
 bgd (F.within x2 3) (
 obind (F.get [(x3,(x4,(x5,(x6,(x7,(x8,x9)))))),(x10,(x11,(x12,(x13,(x14,(x15,x16)))))),(x17,(x18,(x19,(x20,(x21,(x22,x23))))))] x2) fun q25=>
 bnd (F.add .i64 x2 1) fun v26=>
 bnd (F.rem v26 3) fun v27=>
 bgd (F.within v27 3) (
 obind (F.get [(x3,(x4,(x5,(x6,(x7,(x8,x9)))))),(x10,(x11,(x12,(x13,(x14,(x15,x16)))))),(x17,(x18,(x19,(x20,(x21,(x22,x23))))))] v27) fun q28=>
 obind (edge_Cross q25 q28 x0 x1) fun q29=>
 bnd (F.lt q29 0) fun v30=>
 bite v30 (
 some (.inl ())) (
 bnd (F.eq q29 0) fun v31=>
 bite v31 (
 obind (edge_First q25 q28) fun q32=>
 bnd (F.not q32) fun v33=>
 bite v33 (
 some (.inl ())) (
 bnd (F.add .i64 x2 1) fun v34=>
 edge_In_l1 fl n x0 x1 v34 x3 x4 x5 x6 x7 x8 x9 x10 x11 x12 x13 x14 x15 x16 x17 x18 x19 x20 x21 x22 x23)) (
 bnd (F.add .i64 x2 1) fun v35=>
 edge_In_l1 fl n x0 x1 v35 x3 x4 x5 x6 x7 x8 x9 x10 x11 x12 x13 x14 x15 x16 x17 x18 x19 x20 x21 x22 x23))))) (
 some (.inr ()))
noncomputable def edge_In (fl:Nat) (x0:T10) (x1 x2:Int):Option (Bool):=
 obind (edge_Area x0) fun q3=>
 bnd (F.le q3 0) fun v4=>
 bite v4 (
 some false) (
 obind (edge_In_l1 fl fl x1 x2 0 x0.1.1 x0.1.2.1 x0.1.2.2.1 x0.1.2.2.2.1 x0.1.2.2.2.2.1 x0.1.2.2.2.2.2.1 x0.1.2.2.2.2.2.2 x0.2.1.1 x0.2.1.2.1 x0.2.1.2.2.1 x0.2.1.2.2.2.1 x0.2.1.2.2.2.2.1 x0.2.1.2.2.2.2.2.1 x0.2.1.2.2.2.2.2.2 x0.2.2.1 x0.2.2.2.1 x0.2.2.2.2.1 x0.2.2.2.2.2.1 x0.2.2.2.2.2.2.1 x0.2.2.2.2.2.2.2.1 x0.2.2.2.2.2.2.2.2) fun q5=>
 osum q5 (fun s6=>
 some false) (fun r7=>
 some true))
noncomputable def cover_Mask_i60_l1 (fl:Nat):Nat -> Int -> Int -> Int -> Int -> Int -> Int -> Int -> Int -> Int -> Int -> Int -> Int -> Int -> Int -> Int -> Int -> Int -> Int -> Int -> Int -> Int -> Int -> Int -> Int -> Int -> Int -> Option (Int × Int × Int × Int × Int × Int × Int × Int × Int × Int × Int × Int × Int × Int × Int × Int × Int × Int × Int × Int × Int × Int × Int × Int × Int × Unit)
 | 0,_,_,_,_,_,_,_,_,_,_,_,_,_,_,_,_,_,_,_,_,_,_,_,_,_,_=>none
 | n + 1,x0,x1,x2,x3,x4,x5,x6,x7,x8,x9,x10,x11,x12,x13,x14,x15,x16,x17,x18,x19,x20,x21,x22,x23,x24,x25=>
 bnd (F.gt x0 0) fun v26=>
 bite v26 (
 obind (bits_TrailingZeros8 x0) fun q27=>
 obind (cover_Sample x23 x24 q27) fun q28=>
 obind (edge_In fl ((x2,(x3,(x4,(x5,(x6,(x7,x8)))))),((x9,(x10,(x11,(x12,(x13,(x14,x15)))))),(x16,(x17,(x18,(x19,(x20,(x21,x22)))))))) q28.1 q28.2) fun q29=>
 bite q29 (
 bgd (F.nonneg q27) (
 bnd (F.shl .u8 1 q27) fun v30=>
 bnd (F.or .u8 x25 v30) fun v31=>
 bnd (F.sub .u8 x0 1) fun v32=>
 bnd (F.and .u8 x0 v32) fun v33=>
 cover_Mask_i60_l1 fl n v33 x1 x2 x3 x4 x5 x6 x7 x8 x9 x10 x11 x12 x13 x14 x15 x16 x17 x18 x19 x20 x21 x22 x23 x24 v31)) (
 bnd (F.sub .u8 x0 1) fun v34=>
 bnd (F.and .u8 x0 v34) fun v35=>
 cover_Mask_i60_l1 fl n v35 x1 x2 x3 x4 x5 x6 x7 x8 x9 x10 x11 x12 x13 x14 x15 x16 x17 x18 x19 x20 x21 x22 x23 x24 x25)) (
 some (x1,(x2,(x3,(x4,(x5,(x6,(x7,(x8,(x9,(x10,(x11,(x12,(x13,(x14,(x15,(x16,(x17,(x18,(x19,(x20,(x21,(x22,(x23,(x24,(x25,()))))))))))))))))))))))))))
noncomputable def cover_Mask (fl:Nat) (x0:T10) (x1 x2:Int):Option (Int):=
 obind (cover_Bits 15) fun q3=>
 bnd (F.and .u8 q3 15) fun v4=>
 obind (cover_Mask_i60_l1 fl fl v4 q3 x0.1.1 x0.1.2.1 x0.1.2.2.1 x0.1.2.2.2.1 x0.1.2.2.2.2.1 x0.1.2.2.2.2.2.1 x0.1.2.2.2.2.2.2 x0.2.1.1 x0.2.1.2.1 x0.2.1.2.2.1 x0.2.1.2.2.2.1 x0.2.1.2.2.2.2.1 x0.2.1.2.2.2.2.2.1 x0.2.1.2.2.2.2.2.2 x0.2.2.1 x0.2.2.2.1 x0.2.2.2.2.1 x0.2.2.2.2.2.1 x0.2.2.2.2.2.2.1 x0.2.2.2.2.2.2.2.1 x0.2.2.2.2.2.2.2.2 x1 x2 0) fun q5=>
 some q5.2.2.2.2.2.2.2.2.2.2.2.2.2.2.2.2.2.2.2.2.2.2.2.2.1
noncomputable def frags_Maker__tex (x0:Int × Int × Int × Int × Int × Int × (List T2) × T6 × (List T3) × (List T4) × Int × Int) (x1:T4):Option (Int × Int × List T1):=
 bnd (F.lt x1.2.2.1 0) fun v2=>
 bite v2 (
 some (0,(0,[]))) (
 obind (F.get x0.2.2.2.2.2.2.2.1 x1.2.2.1) fun q3=>
 some q3)
noncomputable def plane_Attrs_1 (x0:T5) (x1:Int):Option (Int):=
 bgd (F.within x1 4) (
 obind (F.get [x0.2.2.2.1,x0.2.2.2.2.1,x0.2.2.2.2.2.1,x0.2.2.2.2.2.2] x1) fun q2=>
 some q2)
noncomputable def view_Centre (x0:Int):Option (Int):=
 bnd (F.mul .i64 16 x0) fun v1=>
 bnd (F.add .i64 v1 8) fun v2=>
 some v2
noncomputable def plane_At (fl:Nat) (x0:T10) (x1:Int × Int × Int) (x2 x3:Int):Option (Int):=
 obind (edge_Area x0) fun q4=>
 bnd (F.le q4 0) fun v5=>
 bite v5 (
 some 0) (
 obind (edge_Cross x0.2.1 x0.2.2 x2 x3) fun q6=>
 obind (fixed_MulDiv fl x1.1 q6 q4) fun q7=>
 bnd (F.add .i64 0 q7.1) fun v8=>
 bnd (F.mul .i64 x1.1 q6) fun v9=>
 bnd (F.mul .i64 q7.1 q4) fun v10=>
 bnd (F.sub .i64 v9 v10) fun v11=>
 bnd (F.add .i64 0 v11) fun v12=>
 obind (edge_Cross x0.2.2 x0.1 x2 x3) fun q13=>
 obind (fixed_MulDiv fl x1.2.1 q13 q4) fun q14=>
 bnd (F.add .i64 v8 q14.1) fun v15=>
 bnd (F.mul .i64 x1.2.1 q13) fun v16=>
 bnd (F.mul .i64 q14.1 q4) fun v17=>
 bnd (F.sub .i64 v16 v17) fun v18=>
 bnd (F.add .i64 v12 v18) fun v19=>
 obind (edge_Cross x0.1 x0.2.1 x2 x3) fun q20=>
 obind (fixed_MulDiv fl x1.2.2 q20 q4) fun q21=>
 bnd (F.add .i64 v15 q21.1) fun v22=>
 bnd (F.mul .i64 x1.2.2 q20) fun v23=>
 bnd (F.mul .i64 q21.1 q4) fun v24=>
 bnd (F.sub .i64 v23 v24) fun v25=>
 bnd (F.add .i64 v19 v25) fun v26=>
 bgd (F.nonzero q4) (
 bnd (F.quo .i64 v26 q4) fun v27=>
 bnd (F.add .i64 v22 v27) fun v28=>
 some v28))
noncomputable def plane_each (fl:Nat) (x0:T10) (x1 x2 x3:Int):Option (Int):=
 obind (plane_Attrs_1 x0.1 x3) fun q4=>
 obind (plane_Attrs_1 x0.2.1 x3) fun q5=>
 obind (plane_Attrs_1 x0.2.2 x3) fun q6=>
 obind (view_Centre x1) fun q7=>
 obind (view_Centre x2) fun q8=>
 obind (plane_At fl x0 (q4,(q5,q6)) q7 q8) fun q9=>
 some q9
noncomputable def plane_Attrs (fl:Nat) (x0:T10) (x1 x2:Int):Option T1:=
 obind (plane_each fl x0 x1 x2 0) fun q3=>
 obind (plane_each fl x0 x1 x2 1) fun q4=>
 obind (plane_each fl x0 x1 x2 2) fun q5=>
 obind (plane_each fl x0 x1 x2 3) fun q6=>
 some (q3,(q4,(q5,q6)))
noncomputable def code_uses (x0:Int):Option (Int):=
 bnd (F.eq x0 0) fun v1=>
 bite v1 (
 some 9) (
 bnd (F.eq x0 1) fun v2=>
 bite v2 (
 some 3) (
 bnd (F.eq x0 9) fun v3=>
 bite v3 (
 bite v3 (
 some 11) (
 bnd (F.eq x0 12) fun v4=>
 bite v4 (
 some 10) (
 bnd (F.eq x0 2) fun v5=>
 bite v5 (
 bite v5 (
 some 7) (
 some 0)) (
 bnd (F.eq x0 3) fun v6=>
 bite v6 (
 bite v6 (
 some 7) (
 some 0)) (
 bnd (F.eq x0 4) fun v7=>
 bite v7 (
 bite v7 (
 some 7) (
 some 0)) (
 bnd (F.eq x0 5) fun v8=>
 bite v8 (
 bite v8 (
 some 7) (
 some 0)) (
 bnd (F.eq x0 6) fun v9=>
 bite v9 (
 bite v9 (
 some 7) (
 some 0)) (
 bnd (F.eq x0 7) fun v10=>
 bite v10 (
 bite v10 (
 some 7) (
 some 0)) (
 bnd (F.eq x0 8) fun v11=>
 bite v11 (
 bite v11 (
 some 7) (
 some 0)) (
 bnd (F.eq x0 11) fun v12=>
 bite v12 (
 bite v12 (
 some 7) (
 some 0)) (
 bnd (F.eq x0 13) fun v13=>
 bite v13 (
 bite v13 (
 some 7) (
 some 0)) (
 bnd (F.eq x0 14) fun v14=>
 bite v14 (
 some 7) (
 some 0))))))))))))) (
 bnd (F.eq x0 10) fun v15=>
 bite v15 (
 some 11) (
 bnd (F.eq x0 12) fun v16=>
 bite v16 (
 some 10) (
 bnd (F.eq x0 2) fun v17=>
 bite v17 (
 bite v17 (
 some 7) (
 some 0)) (
 bnd (F.eq x0 3) fun v18=>
 bite v18 (
 bite v18 (
 some 7) (
 some 0)) (
 bnd (F.eq x0 4) fun v19=>
 bite v19 (
 bite v19 (
 some 7) (
 some 0)) (
 bnd (F.eq x0 5) fun v20=>
 bite v20 (
 bite v20 (
 some 7) (
 some 0)) (
 bnd (F.eq x0 6) fun v21=>
 bite v21 (
 bite v21 (
 some 7) (
 some 0)) (
 bnd (F.eq x0 7) fun v22=>
 bite v22 (
 bite v22 (
 some 7) (
 some 0)) (
 bnd (F.eq x0 8) fun v23=>
 bite v23 (
 bite v23 (
 some 7) (
 some 0)) (
 bnd (F.eq x0 11) fun v24=>
 bite v24 (
 bite v24 (
 some 7) (
 some 0)) (
 bnd (F.eq x0 13) fun v25=>
 bite v25 (
 bite v25 (
 some 7) (
 some 0)) (
 bnd (F.eq x0 14) fun v26=>
 bite v26 (
 some 7) (
 some 0)))))))))))))))
noncomputable def code_asks (x0:Int × Int × Int × Int × Int):Option (Bool):=
 bnd (F.eq x0.1 13) fun v1=>
 bite v1 (
 some true) (
 bnd (F.eq x0.1 14) fun v2=>
 some v2)
noncomputable def code_fits (x0 x1 x2:Int) (x3:Bool):Option (Bool):=
 bnd (F.ge x0 x1) fun v4=>
 bite v4 (
 bnd (F.le x0 x2) fun v5=>
 bite v5 (
 bite x3 (
 some true) (
 bnd (F.eq x0 0) fun v6=>
 some v6)) (
 some false)) (
 some false)
noncomputable def code_One (x0:Int × Int × Int × Int × Int) (x1 x2:Int):Option (Bool):=
 obind (code_uses x0.1) fun q3=>
 bnd (F.eq x0.1 0) fun v4=>
 bite v4 (
 obind (code_asks x0) fun q5=>
 bite q5 (
 bnd (F.gt q3 0) fun v6=>
 bite v6 (
 bnd (F.ge x1 0) fun v7=>
 bite v7 (
 bnd (F.lt x1 x2) fun v8=>
 bite v8 (
 bnd (F.conv .i64 x0.2.1) fun v9=>
 bnd (F.and .i64 q3 1) fun v10=>
 bnd (F.gt v10 0) fun v11=>
 obind (code_fits v9 0 4 v11) fun q12=>
 bite q12 (
 bnd (F.conv .i64 x0.2.2.1) fun v13=>
 bnd (F.and .i64 q3 2) fun v14=>
 bnd (F.gt v14 0) fun v15=>
 obind (code_fits v13 0 7 v15) fun q16=>
 bite q16 (
 bnd (F.conv .i64 x0.2.2.2.1) fun v17=>
 bnd (F.and .i64 q3 4) fun v18=>
 bnd (F.gt v18 0) fun v19=>
 obind (code_fits v17 0 7 v19) fun q20=>
 bite q20 (
 bnd (F.and .i64 q3 8) fun v21=>
 bnd (F.gt v21 0) fun v22=>
 obind (code_fits x0.2.2.2.2 (-2147483648) 2147483647 v22) fun q23=>
 some q23) (
 some false)) (
 some false)) (
 some false)) (
 some false)) (
 some false)) (
 some false)) (
 bnd (F.gt q3 0) fun v24=>
 bite v24 (
 bnd (F.ge x1 0) fun v25=>
 bite v25 (
 bnd (F.lt x1 x2) fun v26=>
 bite v26 (
 bnd (F.conv .i64 x0.2.1) fun v27=>
 bnd (F.and .i64 q3 1) fun v28=>
 bnd (F.gt v28 0) fun v29=>
 obind (code_fits v27 0 7 v29) fun q30=>
 bite q30 (
 bnd (F.conv .i64 x0.2.2.1) fun v31=>
 bnd (F.and .i64 q3 2) fun v32=>
 bnd (F.gt v32 0) fun v33=>
 obind (code_fits v31 0 7 v33) fun q34=>
 bite q34 (
 bnd (F.conv .i64 x0.2.2.2.1) fun v35=>
 bnd (F.and .i64 q3 4) fun v36=>
 bnd (F.gt v36 0) fun v37=>
 obind (code_fits v35 0 7 v37) fun q38=>
 bite q38 (
 bnd (F.and .i64 q3 8) fun v39=>
 bnd (F.gt v39 0) fun v40=>
 obind (code_fits x0.2.2.2.2 (-2147483648) 2147483647 v40) fun q41=>
 some q41) (
 some false)) (
 some false)) (
 some false)) (
 some false)) (
 some false)) (
 some false))) (
 bnd (F.eq x0.1 9) fun v42=>
 bite v42 (
 bite v42 (
 obind (code_asks x0) fun q43=>
 bite q43 (
 bnd (F.gt q3 0) fun v44=>
 bite v44 (
 bnd (F.ge x1 0) fun v45=>
 bite v45 (
 bnd (F.lt x1 x2) fun v46=>
 bite v46 (
 bnd (F.conv .i64 x0.2.1) fun v47=>
 bnd (F.and .i64 q3 1) fun v48=>
 bnd (F.gt v48 0) fun v49=>
 obind (code_fits v47 0 4 v49) fun q50=>
 bite q50 (
 bnd (F.conv .i64 x0.2.2.1) fun v51=>
 bnd (F.and .i64 q3 2) fun v52=>
 bnd (F.gt v52 0) fun v53=>
 obind (code_fits v51 0 7 v53) fun q54=>
 bite q54 (
 bnd (F.conv .i64 x0.2.2.2.1) fun v55=>
 bnd (F.and .i64 q3 4) fun v56=>
 bnd (F.gt v56 0) fun v57=>
 obind (code_fits v55 0 7 v57) fun q58=>
 bite q58 (
 bnd (F.and .i64 q3 8) fun v59=>
 bnd (F.gt v59 0) fun v60=>
 obind (code_fits x0.2.2.2.2 0 31 v60) fun q61=>
 some q61) (
 some false)) (
 some false)) (
 some false)) (
 some false)) (
 some false)) (
 some false)) (
 bnd (F.gt q3 0) fun v62=>
 bite v62 (
 bnd (F.ge x1 0) fun v63=>
 bite v63 (
 bnd (F.lt x1 x2) fun v64=>
 bite v64 (
 bnd (F.conv .i64 x0.2.1) fun v65=>
 bnd (F.and .i64 q3 1) fun v66=>
 bnd (F.gt v66 0) fun v67=>
 obind (code_fits v65 0 7 v67) fun q68=>
 bite q68 (
 bnd (F.conv .i64 x0.2.2.1) fun v69=>
 bnd (F.and .i64 q3 2) fun v70=>
 bnd (F.gt v70 0) fun v71=>
 obind (code_fits v69 0 7 v71) fun q72=>
 bite q72 (
 bnd (F.conv .i64 x0.2.2.2.1) fun v73=>
 bnd (F.and .i64 q3 4) fun v74=>
 bnd (F.gt v74 0) fun v75=>
 obind (code_fits v73 0 7 v75) fun q76=>
 bite q76 (
 bnd (F.and .i64 q3 8) fun v77=>
 bnd (F.gt v77 0) fun v78=>
 obind (code_fits x0.2.2.2.2 0 31 v78) fun q79=>
 some q79) (
 some false)) (
 some false)) (
 some false)) (
 some false)) (
 some false)) (
 some false))) (
 bnd (F.eq x0.1 12) fun v80=>
 bite v80 (
 bnd (F.sub .i64 x2 x1) fun v81=>
 bnd (F.sub .i64 v81 1) fun v82=>
 obind (code_asks x0) fun q83=>
 bite q83 (
 bnd (F.gt q3 0) fun v84=>
 bite v84 (
 bnd (F.ge x1 0) fun v85=>
 bite v85 (
 bnd (F.lt x1 x2) fun v86=>
 bite v86 (
 bnd (F.conv .i64 x0.2.1) fun v87=>
 bnd (F.and .i64 q3 1) fun v88=>
 bnd (F.gt v88 0) fun v89=>
 obind (code_fits v87 0 4 v89) fun q90=>
 bite q90 (
 bnd (F.conv .i64 x0.2.2.1) fun v91=>
 bnd (F.and .i64 q3 2) fun v92=>
 bnd (F.gt v92 0) fun v93=>
 obind (code_fits v91 0 7 v93) fun q94=>
 bite q94 (
 bnd (F.conv .i64 x0.2.2.2.1) fun v95=>
 bnd (F.and .i64 q3 4) fun v96=>
 bnd (F.gt v96 0) fun v97=>
 obind (code_fits v95 0 7 v97) fun q98=>
 bite q98 (
 bnd (F.and .i64 q3 8) fun v99=>
 bnd (F.gt v99 0) fun v100=>
 obind (code_fits x0.2.2.2.2 0 v82 v100) fun q101=>
 some q101) (
 some false)) (
 some false)) (
 some false)) (
 some false)) (
 some false)) (
 some false)) (
 bnd (F.gt q3 0) fun v102=>
 bite v102 (
 bnd (F.ge x1 0) fun v103=>
 bite v103 (
 bnd (F.lt x1 x2) fun v104=>
 bite v104 (
 bnd (F.conv .i64 x0.2.1) fun v105=>
 bnd (F.and .i64 q3 1) fun v106=>
 bnd (F.gt v106 0) fun v107=>
 obind (code_fits v105 0 7 v107) fun q108=>
 bite q108 (
 bnd (F.conv .i64 x0.2.2.1) fun v109=>
 bnd (F.and .i64 q3 2) fun v110=>
 bnd (F.gt v110 0) fun v111=>
 obind (code_fits v109 0 7 v111) fun q112=>
 bite q112 (
 bnd (F.conv .i64 x0.2.2.2.1) fun v113=>
 bnd (F.and .i64 q3 4) fun v114=>
 bnd (F.gt v114 0) fun v115=>
 obind (code_fits v113 0 7 v115) fun q116=>
 bite q116 (
 bnd (F.and .i64 q3 8) fun v117=>
 bnd (F.gt v117 0) fun v118=>
 obind (code_fits x0.2.2.2.2 0 v82 v118) fun q119=>
 some q119) (
 some false)) (
 some false)) (
 some false)) (
 some false)) (
 some false)) (
 some false))) (
 obind (code_asks x0) fun q120=>
 bite q120 (
 bnd (F.gt q3 0) fun v121=>
 bite v121 (
 bnd (F.ge x1 0) fun v122=>
 bite v122 (
 bnd (F.lt x1 x2) fun v123=>
 bite v123 (
 bnd (F.conv .i64 x0.2.1) fun v124=>
 bnd (F.and .i64 q3 1) fun v125=>
 bnd (F.gt v125 0) fun v126=>
 obind (code_fits v124 0 4 v126) fun q127=>
 bite q127 (
 bnd (F.conv .i64 x0.2.2.1) fun v128=>
 bnd (F.and .i64 q3 2) fun v129=>
 bnd (F.gt v129 0) fun v130=>
 obind (code_fits v128 0 7 v130) fun q131=>
 bite q131 (
 bnd (F.conv .i64 x0.2.2.2.1) fun v132=>
 bnd (F.and .i64 q3 4) fun v133=>
 bnd (F.gt v133 0) fun v134=>
 obind (code_fits v132 0 7 v134) fun q135=>
 bite q135 (
 bnd (F.and .i64 q3 8) fun v136=>
 bnd (F.gt v136 0) fun v137=>
 obind (code_fits x0.2.2.2.2 0 0 v137) fun q138=>
 some q138) (
 some false)) (
 some false)) (
 some false)) (
 some false)) (
 some false)) (
 some false)) (
 bnd (F.gt q3 0) fun v139=>
 bite v139 (
 bnd (F.ge x1 0) fun v140=>
 bite v140 (
 bnd (F.lt x1 x2) fun v141=>
 bite v141 (
 bnd (F.conv .i64 x0.2.1) fun v142=>
 bnd (F.and .i64 q3 1) fun v143=>
 bnd (F.gt v143 0) fun v144=>
 obind (code_fits v142 0 7 v144) fun q145=>
 bite q145 (
 bnd (F.conv .i64 x0.2.2.1) fun v146=>
 bnd (F.and .i64 q3 2) fun v147=>
 bnd (F.gt v147 0) fun v148=>
 obind (code_fits v146 0 7 v148) fun q149=>
 bite q149 (
 bnd (F.conv .i64 x0.2.2.2.1) fun v150=>
 bnd (F.and .i64 q3 4) fun v151=>
 bnd (F.gt v151 0) fun v152=>
 obind (code_fits v150 0 7 v152) fun q153=>
 bite q153 (
 bnd (F.and .i64 q3 8) fun v154=>
 bnd (F.gt v154 0) fun v155=>
 obind (code_fits x0.2.2.2.2 0 0 v155) fun q156=>
 some q156) (
 some false)) (
 some false)) (
 some false)) (
 some false)) (
 some false)) (
 some false))))) (
 bnd (F.eq x0.1 10) fun v157=>
 bite v157 (
 obind (code_asks x0) fun q158=>
 bite q158 (
 bnd (F.gt q3 0) fun v159=>
 bite v159 (
 bnd (F.ge x1 0) fun v160=>
 bite v160 (
 bnd (F.lt x1 x2) fun v161=>
 bite v161 (
 bnd (F.conv .i64 x0.2.1) fun v162=>
 bnd (F.and .i64 q3 1) fun v163=>
 bnd (F.gt v163 0) fun v164=>
 obind (code_fits v162 0 4 v164) fun q165=>
 bite q165 (
 bnd (F.conv .i64 x0.2.2.1) fun v166=>
 bnd (F.and .i64 q3 2) fun v167=>
 bnd (F.gt v167 0) fun v168=>
 obind (code_fits v166 0 7 v168) fun q169=>
 bite q169 (
 bnd (F.conv .i64 x0.2.2.2.1) fun v170=>
 bnd (F.and .i64 q3 4) fun v171=>
 bnd (F.gt v171 0) fun v172=>
 obind (code_fits v170 0 7 v172) fun q173=>
 bite q173 (
 bnd (F.and .i64 q3 8) fun v174=>
 bnd (F.gt v174 0) fun v175=>
 obind (code_fits x0.2.2.2.2 0 31 v175) fun q176=>
 some q176) (
 some false)) (
 some false)) (
 some false)) (
 some false)) (
 some false)) (
 some false)) (
 bnd (F.gt q3 0) fun v177=>
 bite v177 (
 bnd (F.ge x1 0) fun v178=>
 bite v178 (
 bnd (F.lt x1 x2) fun v179=>
 bite v179 (
 bnd (F.conv .i64 x0.2.1) fun v180=>
 bnd (F.and .i64 q3 1) fun v181=>
 bnd (F.gt v181 0) fun v182=>
 obind (code_fits v180 0 7 v182) fun q183=>
 bite q183 (
 bnd (F.conv .i64 x0.2.2.1) fun v184=>
 bnd (F.and .i64 q3 2) fun v185=>
 bnd (F.gt v185 0) fun v186=>
 obind (code_fits v184 0 7 v186) fun q187=>
 bite q187 (
 bnd (F.conv .i64 x0.2.2.2.1) fun v188=>
 bnd (F.and .i64 q3 4) fun v189=>
 bnd (F.gt v189 0) fun v190=>
 obind (code_fits v188 0 7 v190) fun q191=>
 bite q191 (
 bnd (F.and .i64 q3 8) fun v192=>
 bnd (F.gt v192 0) fun v193=>
 obind (code_fits x0.2.2.2.2 0 31 v193) fun q194=>
 some q194) (
 some false)) (
 some false)) (
 some false)) (
 some false)) (
 some false)) (
 some false))) (
 bnd (F.eq x0.1 12) fun v195=>
 bite v195 (
 bnd (F.sub .i64 x2 x1) fun v196=>
 bnd (F.sub .i64 v196 1) fun v197=>
 obind (code_asks x0) fun q198=>
 bite q198 (
 bnd (F.gt q3 0) fun v199=>
 bite v199 (
 bnd (F.ge x1 0) fun v200=>
 bite v200 (
 bnd (F.lt x1 x2) fun v201=>
 bite v201 (
 bnd (F.conv .i64 x0.2.1) fun v202=>
 bnd (F.and .i64 q3 1) fun v203=>
 bnd (F.gt v203 0) fun v204=>
 obind (code_fits v202 0 4 v204) fun q205=>
 bite q205 (
 bnd (F.conv .i64 x0.2.2.1) fun v206=>
 bnd (F.and .i64 q3 2) fun v207=>
 bnd (F.gt v207 0) fun v208=>
 obind (code_fits v206 0 7 v208) fun q209=>
 bite q209 (
 bnd (F.conv .i64 x0.2.2.2.1) fun v210=>
 bnd (F.and .i64 q3 4) fun v211=>
 bnd (F.gt v211 0) fun v212=>
 obind (code_fits v210 0 7 v212) fun q213=>
 bite q213 (
 bnd (F.and .i64 q3 8) fun v214=>
 bnd (F.gt v214 0) fun v215=>
 obind (code_fits x0.2.2.2.2 0 v197 v215) fun q216=>
 some q216) (
 some false)) (
 some false)) (
 some false)) (
 some false)) (
 some false)) (
 some false)) (
 bnd (F.gt q3 0) fun v217=>
 bite v217 (
 bnd (F.ge x1 0) fun v218=>
 bite v218 (
 bnd (F.lt x1 x2) fun v219=>
 bite v219 (
 bnd (F.conv .i64 x0.2.1) fun v220=>
 bnd (F.and .i64 q3 1) fun v221=>
 bnd (F.gt v221 0) fun v222=>
 obind (code_fits v220 0 7 v222) fun q223=>
 bite q223 (
 bnd (F.conv .i64 x0.2.2.1) fun v224=>
 bnd (F.and .i64 q3 2) fun v225=>
 bnd (F.gt v225 0) fun v226=>
 obind (code_fits v224 0 7 v226) fun q227=>
 bite q227 (
 bnd (F.conv .i64 x0.2.2.2.1) fun v228=>
 bnd (F.and .i64 q3 4) fun v229=>
 bnd (F.gt v229 0) fun v230=>
 obind (code_fits v228 0 7 v230) fun q231=>
 bite q231 (
 bnd (F.and .i64 q3 8) fun v232=>
 bnd (F.gt v232 0) fun v233=>
 obind (code_fits x0.2.2.2.2 0 v197 v233) fun q234=>
 some q234) (
 some false)) (
 some false)) (
 some false)) (
 some false)) (
 some false)) (
 some false))) (
 obind (code_asks x0) fun q235=>
 bite q235 (
 bnd (F.gt q3 0) fun v236=>
 bite v236 (
 bnd (F.ge x1 0) fun v237=>
 bite v237 (
 bnd (F.lt x1 x2) fun v238=>
 bite v238 (
 bnd (F.conv .i64 x0.2.1) fun v239=>
 bnd (F.and .i64 q3 1) fun v240=>
 bnd (F.gt v240 0) fun v241=>
 obind (code_fits v239 0 4 v241) fun q242=>
 bite q242 (
 bnd (F.conv .i64 x0.2.2.1) fun v243=>
 bnd (F.and .i64 q3 2) fun v244=>
 bnd (F.gt v244 0) fun v245=>
 obind (code_fits v243 0 7 v245) fun q246=>
 bite q246 (
 bnd (F.conv .i64 x0.2.2.2.1) fun v247=>
 bnd (F.and .i64 q3 4) fun v248=>
 bnd (F.gt v248 0) fun v249=>
 obind (code_fits v247 0 7 v249) fun q250=>
 bite q250 (
 bnd (F.and .i64 q3 8) fun v251=>
 bnd (F.gt v251 0) fun v252=>
 obind (code_fits x0.2.2.2.2 0 0 v252) fun q253=>
 some q253) (
 some false)) (
 some false)) (
 some false)) (
 some false)) (
 some false)) (
 some false)) (
 bnd (F.gt q3 0) fun v254=>
 bite v254 (
 bnd (F.ge x1 0) fun v255=>
 bite v255 (
 bnd (F.lt x1 x2) fun v256=>
 bite v256 (
 bnd (F.conv .i64 x0.2.1) fun v257=>
 bnd (F.and .i64 q3 1) fun v258=>
 bnd (F.gt v258 0) fun v259=>
 obind (code_fits v257 0 7 v259) fun q260=>
 bite q260 (
 bnd (F.conv .i64 x0.2.2.1) fun v261=>
 bnd (F.and .i64 q3 2) fun v262=>
 bnd (F.gt v262 0) fun v263=>
 obind (code_fits v261 0 7 v263) fun q264=>
 bite q264 (
 bnd (F.conv .i64 x0.2.2.2.1) fun v265=>
 bnd (F.and .i64 q3 4) fun v266=>
 bnd (F.gt v266 0) fun v267=>
 obind (code_fits v265 0 7 v267) fun q268=>
 bite q268 (
 bnd (F.and .i64 q3 8) fun v269=>
 bnd (F.gt v269 0) fun v270=>
 obind (code_fits x0.2.2.2.2 0 0 v270) fun q271=>
 some q271) (
 some false)) (
 some false)) (
 some false)) (
 some false)) (
 some false)) (
 some false))))))
noncomputable def code_Check_l1 (fl:Nat):Nat -> T3 -> T3 -> Int -> Int -> Option (((Unit) ⊕ (Unit)))
 | 0,_,_,_,_=>none
 | n + 1,x0,x1,x2,x3=>
 bnd (F.lt x3 x2) fun v4=>
 bite v4 (
 obind (F.get x1 x3) fun q5=>
 bnd (F.len x0) fun v6=>
 obind (code_One q5 x3 v6) fun q7=>
 bnd (F.not q7) fun v8=>
 bite v8 (
 some (.inl ())) (
 bnd (F.add .i64 x3 1) fun v9=>
 code_Check_l1 fl n x0 x1 x2 v9)) (
 some (.inr ()))
noncomputable def code_Check (fl:Nat) (x0:T3):Option (Int):=
 bnd (F.len x0) fun v1=>
 bnd (F.eq v1 0) fun v2=>
 bite v2 (
 some 23) (
 bnd (F.len x0) fun v3=>
 bnd (F.gt v3 32) fun v4=>
 bite v4 (
 some 23) (
 bnd (F.len x0) fun v5=>
 obind (code_Check_l1 fl fl x0 x0 v5 0) fun q6=>
 osum q6 (fun s7=>
 some 23) (fun r8=>
 some 0)))
noncomputable def slices_IndexFunc_l1 (fl:Nat):Nat -> T3 -> Unit -> Int -> Int -> Option (((Int × Unit) ⊕ (Unit)))
 | 0,_,_,_,_=>none
 | n + 1,x0,x1,x2,x3=>
 bnd (F.lt x3 x2) fun v4=>
 bite v4 (
 obind (F.get x0 x3) fun q5=>
 obind (code_asks q5) fun q6=>
 bite q6 (
 some (.inl (x3,()))) (
 bnd (F.add .i64 x3 1) fun v7=>
 slices_IndexFunc_l1 fl n x0 () x2 v7)) (
 some (.inr ()))
noncomputable def slices_IndexFunc (fl:Nat) (x0:T3) (x1:Unit):Option (Int):=
 bnd (F.len x0) fun v2=>
 obind (slices_IndexFunc_l1 fl fl x0 () v2 0) fun q3=>
 osum q3 (fun s4=>
 some s4.1) (fun r5=>
 some (-1))
noncomputable def slices_ContainsFunc (fl:Nat) (x0:T3) (x1:Unit):Option (Bool):=
 obind (slices_IndexFunc fl x0 ()) fun q2=>
 bnd (F.ge q2 0) fun v3=>
 some v3
noncomputable def code_Samples (fl:Nat) (x0:T3):Option (Bool):=
 obind (slices_ContainsFunc fl x0 ()) fun q1=>
 some q1
noncomputable def texture_sides_l1 (fl:Nat):Nat -> (List (Int)) -> Int -> Int -> Option (((Unit) ⊕ (Unit)))
 | 0,_,_,_=>none
 | n + 1,x0,x1,x2=>
 bnd (F.lt x2 x1) fun v3=>
 bite v3 (
 obind (F.get x0 x2) fun q4=>
 bnd (F.lt q4 1) fun v5=>
 bite v5 (
 some (.inl ())) (
 bnd (F.gt q4 16) fun v6=>
 bite v6 (
 some (.inl ())) (
 bnd (F.add .i64 x2 1) fun v7=>
 texture_sides_l1 fl n x0 x1 v7))) (
 some (.inr ()))
noncomputable def texture_sides (fl:Nat) (x0:List (Int)):Option (Bool):=
 bnd (F.len x0) fun v1=>
 obind (texture_sides_l1 fl fl x0 v1 0) fun q2=>
 osum q2 (fun s3=>
 some false) (fun r4=>
 some true)
noncomputable def texture_Right (fl:Nat) (x0:Int × Int × List T1):Option (Bool):=
 obind (texture_sides fl [x0.1,x0.2.1]) fun q1=>
 bite q1 (
 bnd (F.len x0.2.2) fun v2=>
 bnd (F.mul .i64 x0.1 x0.2.1) fun v3=>
 bnd (F.eq v2 v3) fun v4=>
 some v4) (
 some false)
noncomputable def vm_Run_j1 (fl:Nat) (x0:T3) (x1 x2:Int) (x3:List T1) (x4 x5:Int) (x6 x7:Int) (x8 x9:Int) (x10 x11:Int):Option (((Int × Unit) ⊕ (T3 × Int × Int × (List T1) × Int × Int × Int × Int × Int × Int × Int × Int × Unit))):=
 obind (code_Check fl x0) fun q12=>
 bnd (F.ne q12 0) fun v13=>
 bite v13 (
 some (.inl (23,()))) (
 obind (code_Samples fl x0) fun q14=>
 bite q14 (
 obind (texture_Right fl (x1,(x2,x3))) fun q15=>
 bnd (F.not q15) fun v16=>
 bite v16 (
 some (.inl (22,()))) (
 some (.inr (x0,(x1,(x2,(x3,(x4,(x5,(x6,(x7,(x8,(x9,(x10,(x11,()))))))))))))))) (
 some (.inr (x0,(x1,(x2,(x3,(x4,(x5,(x6,(x7,(x8,(x9,(x10,(x11,())))))))))))))))
noncomputable def vm_wrap (x0:Int):Option (Int):=
 bnd (F.conv .i32 x0) fun v1=>
 bnd (F.conv .i64 v1) fun v2=>
 some v2
noncomputable def code_Target (x0:Int × Int × Int × Int × Int) (x1:Int):Option (Int):=
 bnd (F.ne x0.1 12) fun v2=>
 bite v2 (
 bnd (F.add .i64 x1 1) fun v3=>
 some v3) (
 bnd (F.add .i64 x1 1) fun v4=>
 bnd (F.add .i64 v4 x0.2.2.2.2) fun v5=>
 some v5)
noncomputable def texture_cut (fl:Nat) (x0:Int):Option (Int × Int):=
 obind (fixed_Floor fl x0 16) fun q1=>
 bnd (F.mul .i64 16 q1.1) fun v2=>
 bnd (F.sub .i64 x0 v2) fun v3=>
 some (q1.1,v3)
noncomputable def texture_Texel (fl:Nat) (x0:Int × Int × List T1) (x1 x2:Int):Option T1:=
 obind (texture_Right fl x0) fun q3=>
 bnd (F.not q3) fun v4=>
 bite v4 (
 some (0,(0,(0,0)))) (
 bgd (F.nonzero x0.1) (
 bnd (F.rem x1 x0.1) fun v5=>
 bnd (F.add .i64 v5 x0.1) fun v6=>
 bgd (F.nonzero x0.1) (
 bnd (F.rem v6 x0.1) fun v7=>
 bgd (F.nonzero x0.2.1) (
 bnd (F.rem x2 x0.2.1) fun v8=>
 bnd (F.add .i64 v8 x0.2.1) fun v9=>
 bgd (F.nonzero x0.2.1) (
 bnd (F.rem v9 x0.2.1) fun v10=>
 bnd (F.mul .i64 v10 x0.1) fun v11=>
 bnd (F.add .i64 v11 v7) fun v12=>
 obind (F.get x0.2.2 v12) fun q13=>
 some q13)))))
noncomputable def texture_Nearest (fl:Nat) (x0:Int × Int × List T1) (x1 x2:Int):Option T1:=
 obind (texture_cut fl x1) fun q3=>
 obind (texture_cut fl x2) fun q4=>
 obind (texture_Texel fl x0 q3.1 q4.1) fun q5=>
 some q5
noncomputable def colour_Mix_1 (x0 x1 x2:Int):Option (Int):=
 bnd (F.sub .i64 256 x2) fun v3=>
 bnd (F.mul .i64 x0 v3) fun v4=>
 bnd (F.mul .i64 x1 x2) fun v5=>
 bnd (F.add .i64 v4 v5) fun v6=>
 bnd (F.add .i64 v6 128) fun v7=>
 bnd (F.quo .i64 v7 256) fun v8=>
 some v8
noncomputable def fixed_Sat (x0:Int):Option (Int):=
 bnd (F.max x0 0) fun v1=>
 bnd (F.min v1 255) fun v2=>
 bnd (F.conv .u8 v2) fun v3=>
 some v3
noncomputable def colour_each_1 (x0 x1 x2:Int):Option (Int):=
 bnd (F.conv .i64 x0) fun v3=>
 bnd (F.conv .i64 x1) fun v4=>
 obind (colour_Mix_1 v3 v4 x2) fun q5=>
 obind (fixed_Sat q5) fun q6=>
 some q6
noncomputable def colour_each (x0 x1:T1) (x2:Int):Option T1:=
 obind (colour_each_1 x0.1 x1.1 x2) fun q3=>
 obind (colour_each_1 x0.2.1 x1.2.1 x2) fun q4=>
 obind (colour_each_1 x0.2.2.1 x1.2.2.1 x2) fun q5=>
 obind (colour_each_1 x0.2.2.2 x1.2.2.2 x2) fun q6=>
 some (q3,(q4,(q5,q6)))
noncomputable def colour_Mix (x0 x1:T1) (x2:Int):Option T1:=
 bnd (F.max x2 0) fun v3=>
 bnd (F.min v3 256) fun v4=>
 obind (colour_each x0 x1 v4) fun q5=>
 some q5
noncomputable def texture_Smooth_1 (fl:Nat) (x0:Int) (x1:Int × Int × List T1) (x2 x3:Int):Option T1:=
 obind (texture_Texel fl x1 x2 x0) fun q4=>
 bnd (F.add .i64 x2 1) fun v5=>
 obind (texture_Texel fl x1 v5 x0) fun q6=>
 bnd (F.mul .i64 16 x3) fun v7=>
 obind (colour_Mix q4 q6 v7) fun q8=>
 some q8
noncomputable def texture_Smooth (fl:Nat) (x0:Int × Int × List T1) (x1 x2:Int):Option T1:=
 bnd (F.sub .i64 x1 8) fun v3=>
 obind (texture_cut fl v3) fun q4=>
 bnd (F.sub .i64 x2 8) fun v5=>
 obind (texture_cut fl v5) fun q6=>
 obind (texture_Smooth_1 fl q6.1 x0 q4.1 q4.2) fun q7=>
 bnd (F.add .i64 q6.1 1) fun v8=>
 obind (texture_Smooth_1 fl v8 x0 q4.1 q4.2) fun q9=>
 bnd (F.mul .i64 16 q6.2) fun v10=>
 obind (colour_Mix q7 q9 v10) fun q11=>
 some q11
noncomputable def vm_bit (x0:Bool):Option (Int):=
 bite x0 (
 some 1) (
 some 0)
noncomputable def vm_value (x0:Int × Int × Int × Int × Int) (x1 x2:Int):Option (Int):=
 bnd (F.eq x0.1 0) fun v3=>
 bite v3 (
 some x0.2.2.2.2) (
 bnd (F.eq x0.1 1) fun v4=>
 bite v4 (
 some x1) (
 bnd (F.eq x0.1 2) fun v5=>
 bite v5 (
 bnd (F.add .i64 x1 x2) fun v6=>
 some v6) (
 bnd (F.eq x0.1 3) fun v7=>
 bite v7 (
 bnd (F.sub .i64 x1 x2) fun v8=>
 some v8) (
 bnd (F.eq x0.1 4) fun v9=>
 bite v9 (
 bnd (F.mul .i64 x1 x2) fun v10=>
 bnd (F.shr .i64 v10 8) fun v11=>
 some v11) (
 bnd (F.eq x0.1 5) fun v12=>
 bite v12 (
 bnd (F.min x1 x2) fun v13=>
 some v13) (
 bnd (F.eq x0.1 6) fun v14=>
 bite v14 (
 bnd (F.max x1 x2) fun v15=>
 some v15) (
 bnd (F.eq x0.1 7) fun v16=>
 bite v16 (
 bnd (F.and .i64 x1 x2) fun v17=>
 some v17) (
 bnd (F.eq x0.1 8) fun v18=>
 bite v18 (
 bnd (F.or .i64 x1 x2) fun v19=>
 some v19) (
 bnd (F.eq x0.1 9) fun v20=>
 bite v20 (
 bgd (F.nonneg x0.2.2.2.2) (
 bnd (F.shl .i64 x1 x0.2.2.2.2) fun v21=>
 some v21)) (
 bnd (F.eq x0.1 10) fun v22=>
 bite v22 (
 bgd (F.nonneg x0.2.2.2.2) (
 bnd (F.shr .i64 x1 x0.2.2.2.2) fun v23=>
 some v23)) (
 bnd (F.lt x1 x2) fun v24=>
 obind (vm_bit v24) fun q25=>
 some q25)))))))))))
noncomputable def vm_Run_i69_l1 (fl:Nat):Nat -> Int -> (List (Int)) -> Int -> Int -> T3 -> Int -> Int -> Int -> Int -> Int -> (List T1) -> Int -> Int -> Int -> Int -> Int -> Int -> Int -> Int -> Option (T3 × Int × Int × Int × Int × Int × (List T1) × Int × Int × Int × Int × Int × Int × Int × Int × Unit)
 | 0,_,_,_,_,_,_,_,_,_,_,_,_,_,_,_,_,_,_,_=>none
 | n + 1,x0,x1,x2,x3,x4,x5,x6,x7,x8,x9,x10,x11,x12,x13,x14,x15,x16,x17,x18=>
 bnd (F.lt x3 x2) fun v19=>
 bite v19 (
 obind (F.get x1 x3) fun q20=>
 bnd (F.conv .i64 x0) fun v21=>
 bnd (F.add .i64 v21 x3) fun v22=>
 obind (vm_wrap q20) fun q23=>
 bgd (F.within v22 8) (
 bnd (F.add .i64 x3 1) fun v24=>
 vm_Run_i69_l1 fl n x0 x1 x2 v24 x4 x5 x6 x7 x8 x9 x10 (F.pick v22 0 q23 x11) (F.pick v22 1 q23 x12) (F.pick v22 2 q23 x13) (F.pick v22 3 q23 x14) (F.pick v22 4 q23 x15) (F.pick v22 5 q23 x16) (F.pick v22 6 q23 x17) (F.pick v22 7 q23 x18))) (
 some (x4,(x5,(x6,(x7,(x8,(x9,(x10,(x11,(x12,(x13,(x14,(x15,(x16,(x17,(x18,()))))))))))))))))
noncomputable def vm_Run_i69_l2 (fl:Nat):Nat -> Int -> (List (Int)) -> Int -> Int -> T3 -> Int -> Int -> Int -> Int -> Int -> (List T1) -> Int -> Int -> Int -> Int -> Int -> Int -> Int -> Int -> Option (T3 × Int × Int × Int × Int × Int × (List T1) × Int × Int × Int × Int × Int × Int × Int × Int × Unit)
 | 0,_,_,_,_,_,_,_,_,_,_,_,_,_,_,_,_,_,_,_=>none
 | n + 1,x0,x1,x2,x3,x4,x5,x6,x7,x8,x9,x10,x11,x12,x13,x14,x15,x16,x17,x18=>
 bnd (F.lt x3 x2) fun v19=>
 bite v19 (
 obind (F.get x1 x3) fun q20=>
 bnd (F.conv .i64 x0) fun v21=>
 bnd (F.add .i64 v21 x3) fun v22=>
 obind (vm_wrap q20) fun q23=>
 bgd (F.within v22 8) (
 bnd (F.add .i64 x3 1) fun v24=>
 vm_Run_i69_l2 fl n x0 x1 x2 v24 x4 x5 x6 x7 x8 x9 x10 (F.pick v22 0 q23 x11) (F.pick v22 1 q23 x12) (F.pick v22 2 q23 x13) (F.pick v22 3 q23 x14) (F.pick v22 4 q23 x15) (F.pick v22 5 q23 x16) (F.pick v22 6 q23 x17) (F.pick v22 7 q23 x18))) (
 some (x4,(x5,(x6,(x7,(x8,(x9,(x10,(x11,(x12,(x13,(x14,(x15,(x16,(x17,(x18,()))))))))))))))))
noncomputable def vm_Run_i69_l3 (fl:Nat):Nat -> Int -> (List (Int)) -> Int -> Int -> T3 -> Int -> Int -> Int -> Int -> Int -> (List T1) -> Int -> Int -> Int -> Int -> Int -> Int -> Int -> Int -> Option (T3 × Int × Int × Int × Int × Int × (List T1) × Int × Int × Int × Int × Int × Int × Int × Int × Unit)
 | 0,_,_,_,_,_,_,_,_,_,_,_,_,_,_,_,_,_,_,_=>none
 | n + 1,x0,x1,x2,x3,x4,x5,x6,x7,x8,x9,x10,x11,x12,x13,x14,x15,x16,x17,x18=>
 bnd (F.lt x3 x2) fun v19=>
 bite v19 (
 obind (F.get x1 x3) fun q20=>
 bnd (F.conv .i64 x0) fun v21=>
 bnd (F.add .i64 v21 x3) fun v22=>
 obind (vm_wrap q20) fun q23=>
 bgd (F.within v22 8) (
 bnd (F.add .i64 x3 1) fun v24=>
 vm_Run_i69_l3 fl n x0 x1 x2 v24 x4 x5 x6 x7 x8 x9 x10 (F.pick v22 0 q23 x11) (F.pick v22 1 q23 x12) (F.pick v22 2 q23 x13) (F.pick v22 3 q23 x14) (F.pick v22 4 q23 x15) (F.pick v22 5 q23 x16) (F.pick v22 6 q23 x17) (F.pick v22 7 q23 x18))) (
 some (x4,(x5,(x6,(x7,(x8,(x9,(x10,(x11,(x12,(x13,(x14,(x15,(x16,(x17,(x18,()))))))))))))))))
noncomputable def vm_Run_l2 (fl:Nat):Nat -> T3 -> Int -> Int -> Int -> Int -> (List T1) -> Int -> Int -> Int -> Int -> Int -> Int -> Int -> Int -> Option (Int × Int × Int × Int × Int × Int × Int × Int × Int × Unit)
 | 0,_,_,_,_,_,_,_,_,_,_,_,_,_,_=>none
 | n + 1,x0,x1,x2,x3,x4,x5,x6,x7,x8,x9,x10,x11,x12,x13=>
 bnd (F.len x0) fun v14=>
 bnd (F.lt x2 v14) fun v15=>
 bite v15 (
 obind (F.get x0 x2) fun q16=>
 bgd (F.within q16.2.2.1 8) (
 obind (F.get [x6,x7,x8,x9,x10,x11,x12,x13] q16.2.2.1) fun q17=>
 bgd (F.within q16.2.2.2.1 8) (
 obind (F.get [x6,x7,x8,x9,x10,x11,x12,x13] q16.2.2.2.1) fun q18=>
 bnd (F.add .i64 x2 1) fun v19=>
 bnd (F.eq q16.1 12) fun v20=>
 bite v20 (
 bnd (F.ne q17 0) fun v21=>
 bite v21 (
 bnd (F.sub .i64 v19 1) fun v22=>
 obind (code_Target q16 v22) fun q23=>
 bnd (F.add .i64 x1 1) fun v24=>
 vm_Run_l2 fl n x0 v24 q23 x3 x4 x5 x6 x7 x8 x9 x10 x11 x12 x13) (
 bnd (F.add .i64 x1 1) fun v25=>
 vm_Run_l2 fl n x0 v25 v19 x3 x4 x5 x6 x7 x8 x9 x10 x11 x12 x13)) (
 bnd (F.eq q16.1 13) fun v26=>
 bite v26 (
 obind (texture_Nearest fl (x3,(x4,x5)) q17 q18) fun q27=>
 bnd (F.conv .i64 q27.1) fun v28=>
 bnd (F.conv .i64 q27.2.1) fun v29=>
 bnd (F.conv .i64 q27.2.2.1) fun v30=>
 bnd (F.conv .i64 q27.2.2.2) fun v31=>
 bnd (F.len [v28,v29,v30,v31]) fun v32=>
 obind (vm_Run_i69_l1 fl fl q16.2.1 [v28,v29,v30,v31] v32 0 x0 x1 v19 q16.2.1 x3 x4 x5 x6 x7 x8 x9 x10 x11 x12 x13) fun q33=>
 bnd (F.add .i64 q33.2.1 1) fun v34=>
 vm_Run_l2 fl n q33.1 v34 q33.2.2.1 q33.2.2.2.2.1 q33.2.2.2.2.2.1 q33.2.2.2.2.2.2.1 q33.2.2.2.2.2.2.2.1 q33.2.2.2.2.2.2.2.2.1 q33.2.2.2.2.2.2.2.2.2.1 q33.2.2.2.2.2.2.2.2.2.2.1 q33.2.2.2.2.2.2.2.2.2.2.2.1 q33.2.2.2.2.2.2.2.2.2.2.2.2.1 q33.2.2.2.2.2.2.2.2.2.2.2.2.2.1 q33.2.2.2.2.2.2.2.2.2.2.2.2.2.2.1) (
 bnd (F.eq q16.1 14) fun v35=>
 bite v35 (
 obind (texture_Smooth fl (x3,(x4,x5)) q17 q18) fun q36=>
 bnd (F.conv .i64 q36.1) fun v37=>
 bnd (F.conv .i64 q36.2.1) fun v38=>
 bnd (F.conv .i64 q36.2.2.1) fun v39=>
 bnd (F.conv .i64 q36.2.2.2) fun v40=>
 bnd (F.len [v37,v38,v39,v40]) fun v41=>
 obind (vm_Run_i69_l2 fl fl q16.2.1 [v37,v38,v39,v40] v41 0 x0 x1 v19 q16.2.1 x3 x4 x5 x6 x7 x8 x9 x10 x11 x12 x13) fun q42=>
 bnd (F.add .i64 q42.2.1 1) fun v43=>
 vm_Run_l2 fl n q42.1 v43 q42.2.2.1 q42.2.2.2.2.1 q42.2.2.2.2.2.1 q42.2.2.2.2.2.2.1 q42.2.2.2.2.2.2.2.1 q42.2.2.2.2.2.2.2.2.1 q42.2.2.2.2.2.2.2.2.2.1 q42.2.2.2.2.2.2.2.2.2.2.1 q42.2.2.2.2.2.2.2.2.2.2.2.1 q42.2.2.2.2.2.2.2.2.2.2.2.2.1 q42.2.2.2.2.2.2.2.2.2.2.2.2.2.1 q42.2.2.2.2.2.2.2.2.2.2.2.2.2.2.1) (
 obind (vm_value q16 q17 q18) fun q44=>
 bnd (F.len [q44]) fun v45=>
 obind (vm_Run_i69_l3 fl fl q16.2.1 [q44] v45 0 x0 x1 v19 q16.2.1 x3 x4 x5 x6 x7 x8 x9 x10 x11 x12 x13) fun q46=>
 bnd (F.add .i64 q46.2.1 1) fun v47=>
 vm_Run_l2 fl n q46.1 v47 q46.2.2.1 q46.2.2.2.2.1 q46.2.2.2.2.2.1 q46.2.2.2.2.2.2.1 q46.2.2.2.2.2.2.2.1 q46.2.2.2.2.2.2.2.2.1 q46.2.2.2.2.2.2.2.2.2.1 q46.2.2.2.2.2.2.2.2.2.2.1 q46.2.2.2.2.2.2.2.2.2.2.2.1 q46.2.2.2.2.2.2.2.2.2.2.2.2.1 q46.2.2.2.2.2.2.2.2.2.2.2.2.2.1 q46.2.2.2.2.2.2.2.2.2.2.2.2.2.2.1)))))) (
 some (x1,(x6,(x7,(x8,(x9,(x10,(x11,(x12,(x13,()))))))))))
noncomputable def vm_Run (fl:Nat) (x0:T3) (x1:Int × Int × List T1) (x2:T2):Option (T2 × Int × Int):=
 obind (vm_Run_j1 fl x0 x1.1 x1.2.1 x1.2.2 x2.1 x2.2.1 x2.2.2.1 x2.2.2.2.1 x2.2.2.2.2.1 x2.2.2.2.2.2.1 x2.2.2.2.2.2.2.1 x2.2.2.2.2.2.2.2) fun q3=>
 osum q3 (fun s4=>
 some ((0,(0,(0,(0,(0,(0,(0,0))))))),(0,s4.1))) (fun r5=>
 obind (vm_wrap r5.2.2.2.2.1) fun q6=>
 obind (vm_wrap r5.2.2.2.2.2.1) fun q7=>
 obind (vm_wrap r5.2.2.2.2.2.2.1) fun q8=>
 obind (vm_wrap r5.2.2.2.2.2.2.2.1) fun q9=>
 obind (vm_wrap r5.2.2.2.2.2.2.2.2.1) fun q10=>
 obind (vm_wrap r5.2.2.2.2.2.2.2.2.2.1) fun q11=>
 obind (vm_wrap r5.2.2.2.2.2.2.2.2.2.2.1) fun q12=>
 obind (vm_wrap r5.2.2.2.2.2.2.2.2.2.2.2.1) fun q13=>
 obind (vm_Run_l2 fl fl r5.1 0 0 r5.2.1 r5.2.2.1 r5.2.2.2.1 q6 q7 q8 q9 q10 q11 q12 q13) fun q14=>
 some ((q14.2.1,(q14.2.2.1,(q14.2.2.2.1,(q14.2.2.2.2.1,(q14.2.2.2.2.2.1,(q14.2.2.2.2.2.2.1,(q14.2.2.2.2.2.2.2.1,q14.2.2.2.2.2.2.2.2.1))))))),(q14.1,0)))
noncomputable def fixed_Div255 (x0:Int):Option (Int):=
 bnd (F.max x0 0) fun v1=>
 bnd (F.min v1 65025) fun v2=>
 bnd (F.add .i64 v2 127) fun v3=>
 bnd (F.quo .i64 v3 255) fun v4=>
 some v4
noncomputable def colour_Pre_1 (x0 x1:Int) (x2:T1):Option (Int):=
 bnd (F.conv .i64 x2.2.2.2) fun v3=>
 bnd (F.mul .i64 x0 v3) fun v4=>
 obind (fixed_Div255 v4) fun q5=>
 some q5
noncomputable def colour_each_1__2 (x0 x1:Int) (x2:T1):Option (Int):=
 bnd (F.conv .i64 x0) fun v3=>
 bnd (F.conv .i64 x1) fun v4=>
 obind (colour_Pre_1 v3 v4 x2) fun q5=>
 obind (fixed_Sat q5) fun q6=>
 some q6
noncomputable def colour_each__2 (x0 x1 x2:T1):Option T1:=
 obind (colour_each_1__2 x0.1 x1.1 x2) fun q3=>
 obind (colour_each_1__2 x0.2.1 x1.2.1 x2) fun q4=>
 obind (colour_each_1__2 x0.2.2.1 x1.2.2.1 x2) fun q5=>
 obind (colour_each_1__2 x0.2.2.2 x1.2.2.2 x2) fun q6=>
 some (q3,(q4,(q5,q6)))
noncomputable def colour_Pre (x0:T1):Option T1:=
 obind (colour_each__2 x0 x0 x0) fun q1=>
 some (q1.1,(q1.2.1,(q1.2.2.1,x0.2.2.2)))
noncomputable def vm_Shade (fl:Nat) (x0:T3) (x1:Int × Int × List T1) (x2:T1) (x3 x4:Int):Option (T1 × Int × Int):=
 obind (vm_Run fl x0 x1 (x2.1,(x2.2.1,(x2.2.2.1,(x2.2.2.2,(x3,(x4,(0,0)))))))) fun q5=>
 bnd (F.ne q5.2.2 0) fun v6=>
 bite v6 (
 some ((0,(0,(0,0))),(0,q5.2.2))) (
 obind (fixed_Sat q5.1.1) fun q7=>
 obind (fixed_Sat q5.1.2.1) fun q8=>
 obind (fixed_Sat q5.1.2.2.1) fun q9=>
 obind (fixed_Sat q5.1.2.2.2.1) fun q10=>
 obind (colour_Pre (q7,(q8,(q9,q10)))) fun q11=>
 some (q11,(q5.2.1,0)))
noncomputable def plane_Depth_1 (x0:T5):Option (Int):=
 some x0.2.2.1
noncomputable def plane_each__2 (fl:Nat) (x0:T10) (x1 x2:Int) (x3:Unit):Option (Int):=
 obind (plane_Depth_1 x0.1) fun q4=>
 obind (plane_Depth_1 x0.2.1) fun q5=>
 obind (plane_Depth_1 x0.2.2) fun q6=>
 obind (view_Centre x1) fun q7=>
 obind (view_Centre x2) fun q8=>
 obind (plane_At fl x0 (q4,(q5,q6)) q7 q8) fun q9=>
 some q9
noncomputable def plane_Depth (fl:Nat) (x0:T10) (x1 x2:Int):Option (Int):=
 obind (edge_Area x0) fun q3=>
 bnd (F.le q3 0) fun v4=>
 bite v4 (
 some 0) (
 obind (plane_each__2 fl x0 x1 x2 ()) fun q5=>
 bnd (F.min (F.min x0.1.2.2.1 x0.2.1.2.2.1) x0.2.2.2.2.1) fun v6=>
 bnd (F.max q5 v6) fun v7=>
 bnd (F.max (F.max x0.1.2.2.1 x0.2.1.2.2.1) x0.2.2.2.2.1) fun v8=>
 bnd (F.min v7 v8) fun v9=>
 some v9)
noncomputable def frags_Maker__frag (fl:Nat) (x0:T12 × Int × Int) (x1:T4) (x2:T1) (x3:Int × T5 × T5 × Int × Int × Int × Int × Int × Int × Int) (x4 x5:Int):Option (((Int × Int × Int × T1 × Int × Int × Int × Int) × Bool) × (T12 × Int × Int)):=
 obind (cover_Mask fl x3.2 x4 x5) fun q5=>
 bnd (F.eq q5 0) fun v6=>
 bite v6 (
 some (((0,(0,(0,((0,(0,(0,0))),(0,(0,(0,0))))))),false),x0)) (
 obind (F.get x0.1.2.2.2.2.2.1 x1.2.1) fun q7=>
 obind (frags_Maker__tex (x0.1.1,(x0.1.2.1,(x0.1.2.2.1.1,(x0.1.2.2.1.2.1,(x0.1.2.2.1.2.2.1,(x0.1.2.2.1.2.2.2,(x0.1.2.2.2.1,(x0.1.2.2.2.2.1,(x0.1.2.2.2.2.2.1,(x0.1.2.2.2.2.2.2,x0.2)))))))))) x1) fun q8=>
 obind (plane_Attrs fl x3.2 x4 x5) fun q9=>
 obind (vm_Shade fl q7 q8 q9 x4 x5) fun q10=>
 bnd (F.add .i64 x0.2.1 1) fun v11=>
 bnd (F.add .i64 x0.2.2 q10.2.1) fun v12=>
 obind (plane_Depth fl x3.2 x4 x5) fun q13=>
 some (((x4,(x5,(q5,((q13,(x1.1,(x2.1,x3.1))),q10.1)))),true),(x0.1,(v11,v12))))
noncomputable def glazierlaw22_gone_i34_l1 (fl:Nat):Nat -> Int -> Int -> Int -> Int -> Int -> T9 -> Int -> Int -> T1 -> Int -> (List T4) -> Int -> Int -> Int -> Int -> T7 -> Int -> Int -> Int -> Int -> Bool -> (List T1) -> Int -> Int -> Int -> Int -> Int -> Int -> Int -> Int -> Int -> Int -> Int -> Int -> Int -> Int -> Int -> Int -> Int -> Int -> Int -> Int -> Int -> Int -> Int -> T8 -> Bool -> Int -> Int -> Int -> Int -> Int -> Int -> Int -> Int -> Int -> Int -> (List T2) -> T6 -> (List T3) -> (List T4) -> Int -> Int -> Option ((T11 ⊕ (Int × Int × Int × Int × T9 × Int × Int × T1 × Int × (List T4) × Int × Int × Int × Int × T7 × Int × Int × Int × Int × Bool × (List T1) × Int × Int × Int × Int × Int × Int × Int × Int × Int × Int × Int × Int × Int × Int × Int × Int × Int × Int × Int × Int × Int × Int × Int × T8 × Bool × Int × Int × Int × Int × Int × Int × Int × Int × Int × Int × (List T2) × T6 × (List T3) × (List T4) × Int × Int × Unit)))
 | 0,_,_,_,_,_,_,_,_,_,_,_,_,_,_,_,_,_,_,_,_,_,_,_,_,_,_,_,_,_,_,_,_,_,_,_,_,_,_,_,_,_,_,_,_,_,_,_,_,_,_,_,_,_,_,_,_,_,_,_,_,_,_,_=>none
 | n + 1,x0,x1,x2,x3,x4,x5,x6,x7,x8,x9,x10,x11,x12,x13,x14,x15,x16,x17,x18,x19,x20,x21,x22,x23,x24,x25,x26,x27,x28,x29,x30,x31,x32,x33,x34,x35,x36,x37,x38,x39,x40,x41,x42,x43,x44,x45,x46,x47,x48,x49,x50,x51,x52,x53,x54,x55,x56,x57,x58,x59,x60,x61,x62=>
 bnd (F.lt x4 x2) fun v63=>
 bite v63 (
 obind (F.get x21 x16) fun q64=>
 nilE 0 (
 obind (frags_Maker__frag fl ((x51,(x52,((x53,(x54,(x55,x56))),(x57,(x58,(x59,x60)))))),(x61,x62)) (x17,(x18,(x19,(x20,x21)))) q64 (x22,((x23,(x24,(x25,(x26,(x27,(x28,x29)))))),((x30,(x31,(x32,(x33,(x34,(x35,x36)))))),(x37,(x38,(x39,(x40,(x41,(x42,x43))))))))) x4 x3) fun q65=>
 bite q65.1.2 (
 bgd (F.appOk 64 x45 [q65.1.1]) (
 bnd (F.app x45 [q65.1.1]) fun v66=>
 bnd (F.len v66) fun v67=>
 bnd (F.ge v67 x44) fun v68=>
 bite v68 (
 some (.inl (x5,(x6,(x7,(x8,(x9,(x10,(x11,(x12,(x13,(x14,(x15,(3,(x16,(x17,(x18,(x19,(x20,(x21,(x22,(x23,(x24,(x25,(x26,(x27,(x28,(x29,(x30,(x31,(x32,(x33,(x34,(x35,(x36,(x37,(x38,(x39,(x40,(x41,(x42,(x43,(x44,(v66,(x46,(x47,(x48,(x49,(x50,(q65.2.1.1,(q65.2.1.2.1,(q65.2.1.2.2.1.1,(q65.2.1.2.2.1.2.1,(q65.2.1.2.2.1.2.2.1,(q65.2.1.2.2.1.2.2.2,(q65.2.1.2.2.2.1,(q65.2.1.2.2.2.2.1,(q65.2.1.2.2.2.2.2.1,(q65.2.1.2.2.2.2.2.2,(q65.2.2.1,(q65.2.2.2,()))))))))))))))))))))))))))))))))))))))))))))))))))))))))))))) (
 bnd (F.len v66) fun v69=>
 bnd (F.gt v69 1000000) fun v70=>
 bite v70 (
 some (.inl (x5,(x6,(x7,(x8,(x9,(x10,(x11,(x12,(x13,(x14,(x15,(2,(x16,(x17,(x18,(x19,(x20,(x21,(x22,(x23,(x24,(x25,(x26,(x27,(x28,(x29,(x30,(x31,(x32,(x33,(x34,(x35,(x36,(x37,(x38,(x39,(x40,(x41,(x42,(x43,(x44,(v66,(x46,(x47,(x48,(x49,(x50,(q65.2.1.1,(q65.2.1.2.1,(q65.2.1.2.2.1.1,(q65.2.1.2.2.1.2.1,(q65.2.1.2.2.1.2.2.1,(q65.2.1.2.2.1.2.2.2,(q65.2.1.2.2.2.1,(q65.2.1.2.2.2.2.1,(q65.2.1.2.2.2.2.2.1,(q65.2.1.2.2.2.2.2.2,(q65.2.2.1,(q65.2.2.2,()))))))))))))))))))))))))))))))))))))))))))))))))))))))))))))) (
 bnd (F.add .i64 x4 1) fun v71=>
 glazierlaw22_gone_i34_l1 fl n x0 x1 x2 x3 v71 x5 x6 x7 x8 x9 x10 x11 x12 x13 x14 x15 x16 x17 x18 x19 x20 x21 x22 x23 x24 x25 x26 x27 x28 x29 x30 x31 x32 x33 x34 x35 x36 x37 x38 x39 x40 x41 x42 x43 x44 v66 x46 x47 x48 x49 x50 q65.2.1.1 q65.2.1.2.1 q65.2.1.2.2.1.1 q65.2.1.2.2.1.2.1 q65.2.1.2.2.1.2.2.1 q65.2.1.2.2.1.2.2.2 q65.2.1.2.2.2.1 q65.2.1.2.2.2.2.1 q65.2.1.2.2.2.2.2.1 q65.2.1.2.2.2.2.2.2 q65.2.2.1 q65.2.2.2)))) (
 bnd (F.add .i64 x4 1) fun v72=>
 glazierlaw22_gone_i34_l1 fl n x0 x1 x2 x3 v72 x5 x6 x7 x8 x9 x10 x11 x12 x13 x14 x15 x16 x17 x18 x19 x20 x21 x22 x23 x24 x25 x26 x27 x28 x29 x30 x31 x32 x33 x34 x35 x36 x37 x38 x39 x40 x41 x42 x43 x44 x45 x46 x47 x48 x49 x50 q65.2.1.1 q65.2.1.2.1 q65.2.1.2.2.1.1 q65.2.1.2.2.1.2.1 q65.2.1.2.2.1.2.2.1 q65.2.1.2.2.1.2.2.2 q65.2.1.2.2.2.1 q65.2.1.2.2.2.2.1 q65.2.1.2.2.2.2.2.1 q65.2.1.2.2.2.2.2.2 q65.2.2.1 q65.2.2.2)) (
 obind (frags_Maker__frag fl ((x51,(x52,((x53,(x54,(x55,x56))),(x57,(x58,(x59,x60)))))),(x61,x62)) (x17,(x18,(x19,(x20,x21)))) q64 (x22,((x23,(x24,(x25,(x26,(x27,(x28,x29)))))),((x30,(x31,(x32,(x33,(x34,(x35,x36)))))),(x37,(x38,(x39,(x40,(x41,(x42,x43))))))))) x4 x3) fun q73=>
 bite q73.1.2 (
 bgd (F.appOk 64 x45 [q73.1.1]) (
 bnd (F.app x45 [q73.1.1]) fun v74=>
 bnd (F.len v74) fun v75=>
 bnd (F.ge v75 x44) fun v76=>
 bite v76 (
 some (.inl (x5,(x6,(x7,(x8,(x9,(x10,(x11,(x12,(x13,(x14,(x15,(3,(x16,(x17,(x18,(x19,(x20,(x21,(x22,(x23,(x24,(x25,(x26,(x27,(x28,(x29,(x30,(x31,(x32,(x33,(x34,(x35,(x36,(x37,(x38,(x39,(x40,(x41,(x42,(x43,(x44,(v74,(x46,(x47,(x48,(x49,(x50,(q73.2.1.1,(q73.2.1.2.1,(q73.2.1.2.2.1.1,(q73.2.1.2.2.1.2.1,(q73.2.1.2.2.1.2.2.1,(q73.2.1.2.2.1.2.2.2,(q73.2.1.2.2.2.1,(q73.2.1.2.2.2.2.1,(q73.2.1.2.2.2.2.2.1,(q73.2.1.2.2.2.2.2.2,(q73.2.2.1,(q73.2.2.2,()))))))))))))))))))))))))))))))))))))))))))))))))))))))))))))) (
 bnd (F.len v74) fun v77=>
 bnd (F.gt v77 1000000) fun v78=>
 bite v78 (
 some (.inl (x5,(x6,(x7,(x8,(x9,(x10,(x11,(x12,(x13,(x14,(x15,(2,(x16,(x17,(x18,(x19,(x20,(x21,(x22,(x23,(x24,(x25,(x26,(x27,(x28,(x29,(x30,(x31,(x32,(x33,(x34,(x35,(x36,(x37,(x38,(x39,(x40,(x41,(x42,(x43,(x44,(v74,(x46,(x47,(x48,(x49,(x50,(q73.2.1.1,(q73.2.1.2.1,(q73.2.1.2.2.1.1,(q73.2.1.2.2.1.2.1,(q73.2.1.2.2.1.2.2.1,(q73.2.1.2.2.1.2.2.2,(q73.2.1.2.2.2.1,(q73.2.1.2.2.2.2.1,(q73.2.1.2.2.2.2.2.1,(q73.2.1.2.2.2.2.2.2,(q73.2.2.1,(q73.2.2.2,()))))))))))))))))))))))))))))))))))))))))))))))))))))))))))))) (
 bnd (F.add .i64 x4 1) fun v79=>
 glazierlaw22_gone_i34_l1 fl n x0 x1 x2 x3 v79 x5 x6 x7 x8 x9 x10 x11 x12 x13 x14 x15 x16 x17 x18 x19 x20 x21 x22 x23 x24 x25 x26 x27 x28 x29 x30 x31 x32 x33 x34 x35 x36 x37 x38 x39 x40 x41 x42 x43 x44 v74 x46 x47 x48 x49 x50 q73.2.1.1 q73.2.1.2.1 q73.2.1.2.2.1.1 q73.2.1.2.2.1.2.1 q73.2.1.2.2.1.2.2.1 q73.2.1.2.2.1.2.2.2 q73.2.1.2.2.2.1 q73.2.1.2.2.2.2.1 q73.2.1.2.2.2.2.2.1 q73.2.1.2.2.2.2.2.2 q73.2.2.1 q73.2.2.2)))) (
 bnd (F.add .i64 x4 1) fun v80=>
 glazierlaw22_gone_i34_l1 fl n x0 x1 x2 x3 v80 x5 x6 x7 x8 x9 x10 x11 x12 x13 x14 x15 x16 x17 x18 x19 x20 x21 x22 x23 x24 x25 x26 x27 x28 x29 x30 x31 x32 x33 x34 x35 x36 x37 x38 x39 x40 x41 x42 x43 x44 x45 x46 x47 x48 x49 x50 q73.2.1.1 q73.2.1.2.1 q73.2.1.2.2.1.1 q73.2.1.2.2.1.2.1 q73.2.1.2.2.1.2.2.1 q73.2.1.2.2.1.2.2.2 q73.2.1.2.2.2.1 q73.2.1.2.2.2.2.1 q73.2.1.2.2.2.2.2.1 q73.2.1.2.2.2.2.2.2 q73.2.2.1 q73.2.2.2))) (
 some (.inr (x0,(x1,(x2,(x3,(x5,(x6,(x7,(x8,(x9,(x10,(x11,(x12,(x13,(x14,(x15,(x16,(x17,(x18,(x19,(x20,(x21,(x22,(x23,(x24,(x25,(x26,(x27,(x28,(x29,(x30,(x31,(x32,(x33,(x34,(x35,(x36,(x37,(x38,(x39,(x40,(x41,(x42,(x43,(x44,(x45,(x46,(x47,(x48,(x49,(x50,(x51,(x52,(x53,(x54,(x55,(x56,(x57,(x58,(x59,(x60,(x61,(x62,()))))))))))))))))))))))))))))))))))))))))))))))))))))))))))))))))
noncomputable def glazierlaw22_gone_i34_l2 (fl:Nat):Nat -> Int -> Int -> Int -> Int -> T9 -> Int -> Int -> T1 -> Int -> (List T4) -> Int -> Int -> Int -> Int -> T7 -> Int -> Int -> Int -> Int -> Bool -> (List T1) -> Int -> Int -> Int -> Int -> Int -> Int -> Int -> Int -> Int -> Int -> Int -> Int -> Int -> Int -> Int -> Int -> Int -> Int -> Int -> Int -> Int -> Int -> Int -> T8 -> Bool -> Int -> Int -> Int -> Int -> Int -> Int -> Int -> Int -> Int -> Int -> (List T2) -> T6 -> (List T3) -> (List T4) -> Int -> Int -> Option ((T11 ⊕ (T9 × Int × Int × T1 × Int × (List T4) × Int × Int × Int × Int × T7 × Int × Int × Int × Int × Bool × (List T1) × Int × Int × Int × Int × Int × Int × Int × Int × Int × Int × Int × Int × Int × Int × Int × Int × Int × Int × Int × Int × Int × Int × Int × T8 × Bool × Int × Int × Int × Int × Int × Int × Int × Int × Int × Int × (List T2) × T6 × (List T3) × (List T4) × Int × Int × Unit)))
 | 0,_,_,_,_,_,_,_,_,_,_,_,_,_,_,_,_,_,_,_,_,_,_,_,_,_,_,_,_,_,_,_,_,_,_,_,_,_,_,_,_,_,_,_,_,_,_,_,_,_,_,_,_,_,_,_,_,_,_,_,_,_,_=>none
 | n + 1,x0,x1,x2,x3,x4,x5,x6,x7,x8,x9,x10,x11,x12,x13,x14,x15,x16,x17,x18,x19,x20,x21,x22,x23,x24,x25,x26,x27,x28,x29,x30,x31,x32,x33,x34,x35,x36,x37,x38,x39,x40,x41,x42,x43,x44,x45,x46,x47,x48,x49,x50,x51,x52,x53,x54,x55,x56,x57,x58,x59,x60,x61=>
 bnd (F.lt x3 x0) fun v62=>
 bite v62 (
 obind (glazierlaw22_gone_i34_l1 fl fl x0 x1 x2 x3 x1 x4 x5 x6 x7 x8 x9 x10 x11 x12 x13 x14 x15 x16 x17 x18 x19 x20 x21 x22 x23 x24 x25 x26 x27 x28 x29 x30 x31 x32 x33 x34 x35 x36 x37 x38 x39 x40 x41 x42 x43 x44 x45 x46 x47 x48 x49 x50 x51 x52 x53 x54 x55 x56 x57 x58 x59 x60 x61) fun q63=>
 osum q63 (fun s64=>
 some (.inl (s64.1,(s64.2.1,(s64.2.2.1,(s64.2.2.2.1,(s64.2.2.2.2.1,(s64.2.2.2.2.2.1,(s64.2.2.2.2.2.2.1,(s64.2.2.2.2.2.2.2.1,(s64.2.2.2.2.2.2.2.2.1,(s64.2.2.2.2.2.2.2.2.2.1,(s64.2.2.2.2.2.2.2.2.2.2.1,(s64.2.2.2.2.2.2.2.2.2.2.2.1,(s64.2.2.2.2.2.2.2.2.2.2.2.2.1,(s64.2.2.2.2.2.2.2.2.2.2.2.2.2.1,(s64.2.2.2.2.2.2.2.2.2.2.2.2.2.2.1,(s64.2.2.2.2.2.2.2.2.2.2.2.2.2.2.2.1,(s64.2.2.2.2.2.2.2.2.2.2.2.2.2.2.2.2.1,(s64.2.2.2.2.2.2.2.2.2.2.2.2.2.2.2.2.2.1,(s64.2.2.2.2.2.2.2.2.2.2.2.2.2.2.2.2.2.2.1,(s64.2.2.2.2.2.2.2.2.2.2.2.2.2.2.2.2.2.2.2.1,(s64.2.2.2.2.2.2.2.2.2.2.2.2.2.2.2.2.2.2.2.2.1,(s64.2.2.2.2.2.2.2.2.2.2.2.2.2.2.2.2.2.2.2.2.2.1,(s64.2.2.2.2.2.2.2.2.2.2.2.2.2.2.2.2.2.2.2.2.2.2.1,(s64.2.2.2.2.2.2.2.2.2.2.2.2.2.2.2.2.2.2.2.2.2.2.2.1,(s64.2.2.2.2.2.2.2.2.2.2.2.2.2.2.2.2.2.2.2.2.2.2.2.2.1,(s64.2.2.2.2.2.2.2.2.2.2.2.2.2.2.2.2.2.2.2.2.2.2.2.2.2.1,(s64.2.2.2.2.2.2.2.2.2.2.2.2.2.2.2.2.2.2.2.2.2.2.2.2.2.2.1,(s64.2.2.2.2.2.2.2.2.2.2.2.2.2.2.2.2.2.2.2.2.2.2.2.2.2.2.2.1,(s64.2.2.2.2.2.2.2.2.2.2.2.2.2.2.2.2.2.2.2.2.2.2.2.2.2.2.2.2.1,(s64.2.2.2.2.2.2.2.2.2.2.2.2.2.2.2.2.2.2.2.2.2.2.2.2.2.2.2.2.2.1,(s64.2.2.2.2.2.2.2.2.2.2.2.2.2.2.2.2.2.2.2.2.2.2.2.2.2.2.2.2.2.2.1,(s64.2.2.2.2.2.2.2.2.2.2.2.2.2.2.2.2.2.2.2.2.2.2.2.2.2.2.2.2.2.2.2.1,(s64.2.2.2.2.2.2.2.2.2.2.2.2.2.2.2.2.2.2.2.2.2.2.2.2.2.2.2.2.2.2.2.2.1,(s64.2.2.2.2.2.2.2.2.2.2.2.2.2.2.2.2.2.2.2.2.2.2.2.2.2.2.2.2.2.2.2.2.2.1,(s64.2.2.2.2.2.2.2.2.2.2.2.2.2.2.2.2.2.2.2.2.2.2.2.2.2.2.2.2.2.2.2.2.2.2.1,(s64.2.2.2.2.2.2.2.2.2.2.2.2.2.2.2.2.2.2.2.2.2.2.2.2.2.2.2.2.2.2.2.2.2.2.2.1,(s64.2.2.2.2.2.2.2.2.2.2.2.2.2.2.2.2.2.2.2.2.2.2.2.2.2.2.2.2.2.2.2.2.2.2.2.2.1,(s64.2.2.2.2.2.2.2.2.2.2.2.2.2.2.2.2.2.2.2.2.2.2.2.2.2.2.2.2.2.2.2.2.2.2.2.2.2.1,(s64.2.2.2.2.2.2.2.2.2.2.2.2.2.2.2.2.2.2.2.2.2.2.2.2.2.2.2.2.2.2.2.2.2.2.2.2.2.2.1,(s64.2.2.2.2.2.2.2.2.2.2.2.2.2.2.2.2.2.2.2.2.2.2.2.2.2.2.2.2.2.2.2.2.2.2.2.2.2.2.2.1,(s64.2.2.2.2.2.2.2.2.2.2.2.2.2.2.2.2.2.2.2.2.2.2.2.2.2.2.2.2.2.2.2.2.2.2.2.2.2.2.2.2.1,(s64.2.2.2.2.2.2.2.2.2.2.2.2.2.2.2.2.2.2.2.2.2.2.2.2.2.2.2.2.2.2.2.2.2.2.2.2.2.2.2.2.2.1,(s64.2.2.2.2.2.2.2.2.2.2.2.2.2.2.2.2.2.2.2.2.2.2.2.2.2.2.2.2.2.2.2.2.2.2.2.2.2.2.2.2.2.2.1,(s64.2.2.2.2.2.2.2.2.2.2.2.2.2.2.2.2.2.2.2.2.2.2.2.2.2.2.2.2.2.2.2.2.2.2.2.2.2.2.2.2.2.2.2.1,(s64.2.2.2.2.2.2.2.2.2.2.2.2.2.2.2.2.2.2.2.2.2.2.2.2.2.2.2.2.2.2.2.2.2.2.2.2.2.2.2.2.2.2.2.2.1,(s64.2.2.2.2.2.2.2.2.2.2.2.2.2.2.2.2.2.2.2.2.2.2.2.2.2.2.2.2.2.2.2.2.2.2.2.2.2.2.2.2.2.2.2.2.2.1,(s64.2.2.2.2.2.2.2.2.2.2.2.2.2.2.2.2.2.2.2.2.2.2.2.2.2.2.2.2.2.2.2.2.2.2.2.2.2.2.2.2.2.2.2.2.2.2.1,(s64.2.2.2.2.2.2.2.2.2.2.2.2.2.2.2.2.2.2.2.2.2.2.2.2.2.2.2.2.2.2.2.2.2.2.2.2.2.2.2.2.2.2.2.2.2.2.2.1,(s64.2.2.2.2.2.2.2.2.2.2.2.2.2.2.2.2.2.2.2.2.2.2.2.2.2.2.2.2.2.2.2.2.2.2.2.2.2.2.2.2.2.2.2.2.2.2.2.2.1,(s64.2.2.2.2.2.2.2.2.2.2.2.2.2.2.2.2.2.2.2.2.2.2.2.2.2.2.2.2.2.2.2.2.2.2.2.2.2.2.2.2.2.2.2.2.2.2.2.2.2.1,(s64.2.2.2.2.2.2.2.2.2.2.2.2.2.2.2.2.2.2.2.2.2.2.2.2.2.2.2.2.2.2.2.2.2.2.2.2.2.2.2.2.2.2.2.2.2.2.2.2.2.2.1,(s64.2.2.2.2.2.2.2.2.2.2.2.2.2.2.2.2.2.2.2.2.2.2.2.2.2.2.2.2.2.2.2.2.2.2.2.2.2.2.2.2.2.2.2.2.2.2.2.2.2.2.2.1,(s64.2.2.2.2.2.2.2.2.2.2.2.2.2.2.2.2.2.2.2.2.2.2.2.2.2.2.2.2.2.2.2.2.2.2.2.2.2.2.2.2.2.2.2.2.2.2.2.2.2.2.2.2.1,(s64.2.2.2.2.2.2.2.2.2.2.2.2.2.2.2.2.2.2.2.2.2.2.2.2.2.2.2.2.2.2.2.2.2.2.2.2.2.2.2.2.2.2.2.2.2.2.2.2.2.2.2.2.2.1,(s64.2.2.2.2.2.2.2.2.2.2.2.2.2.2.2.2.2.2.2.2.2.2.2.2.2.2.2.2.2.2.2.2.2.2.2.2.2.2.2.2.2.2.2.2.2.2.2.2.2.2.2.2.2.2.1,(s64.2.2.2.2.2.2.2.2.2.2.2.2.2.2.2.2.2.2.2.2.2.2.2.2.2.2.2.2.2.2.2.2.2.2.2.2.2.2.2.2.2.2.2.2.2.2.2.2.2.2.2.2.2.2.2.1,(s64.2.2.2.2.2.2.2.2.2.2.2.2.2.2.2.2.2.2.2.2.2.2.2.2.2.2.2.2.2.2.2.2.2.2.2.2.2.2.2.2.2.2.2.2.2.2.2.2.2.2.2.2.2.2.2.2.1,(s64.2.2.2.2.2.2.2.2.2.2.2.2.2.2.2.2.2.2.2.2.2.2.2.2.2.2.2.2.2.2.2.2.2.2.2.2.2.2.2.2.2.2.2.2.2.2.2.2.2.2.2.2.2.2.2.2.2.1,(s64.2.2.2.2.2.2.2.2.2.2.2.2.2.2.2.2.2.2.2.2.2.2.2.2.2.2.2.2.2.2.2.2.2.2.2.2.2.2.2.2.2.2.2.2.2.2.2.2.2.2.2.2.2.2.2.2.2.2.1,()))))))))))))))))))))))))))))))))))))))))))))))))))))))))))))) (fun r65=>
 bnd (F.add .i64 r65.2.2.2.1 1) fun v66=>
 glazierlaw22_gone_i34_l2 fl n r65.1 r65.2.1 r65.2.2.1 v66 r65.2.2.2.2.1 r65.2.2.2.2.2.1 r65.2.2.2.2.2.2.1 r65.2.2.2.2.2.2.2.1 r65.2.2.2.2.2.2.2.2.1 r65.2.2.2.2.2.2.2.2.2.1 r65.2.2.2.2.2.2.2.2.2.2.1 r65.2.2.2.2.2.2.2.2.2.2.2.1 r65.2.2.2.2.2.2.2.2.2.2.2.2.1 r65.2.2.2.2.2.2.2.2.2.2.2.2.2.1 r65.2.2.2.2.2.2.2.2.2.2.2.2.2.2.1 r65.2.2.2.2.2.2.2.2.2.2.2.2.2.2.2.1 r65.2.2.2.2.2.2.2.2.2.2.2.2.2.2.2.2.1 r65.2.2.2.2.2.2.2.2.2.2.2.2.2.2.2.2.2.1 r65.2.2.2.2.2.2.2.2.2.2.2.2.2.2.2.2.2.2.1 r65.2.2.2.2.2.2.2.2.2.2.2.2.2.2.2.2.2.2.2.1 r65.2.2.2.2.2.2.2.2.2.2.2.2.2.2.2.2.2.2.2.2.1 r65.2.2.2.2.2.2.2.2.2.2.2.2.2.2.2.2.2.2.2.2.2.1 r65.2.2.2.2.2.2.2.2.2.2.2.2.2.2.2.2.2.2.2.2.2.2.1 r65.2.2.2.2.2.2.2.2.2.2.2.2.2.2.2.2.2.2.2.2.2.2.2.1 r65.2.2.2.2.2.2.2.2.2.2.2.2.2.2.2.2.2.2.2.2.2.2.2.2.1 r65.2.2.2.2.2.2.2.2.2.2.2.2.2.2.2.2.2.2.2.2.2.2.2.2.2.1 r65.2.2.2.2.2.2.2.2.2.2.2.2.2.2.2.2.2.2.2.2.2.2.2.2.2.2.1 r65.2.2.2.2.2.2.2.2.2.2.2.2.2.2.2.2.2.2.2.2.2.2.2.2.2.2.2.1 r65.2.2.2.2.2.2.2.2.2.2.2.2.2.2.2.2.2.2.2.2.2.2.2.2.2.2.2.2.1 r65.2.2.2.2.2.2.2.2.2.2.2.2.2.2.2.2.2.2.2.2.2.2.2.2.2.2.2.2.2.1 r65.2.2.2.2.2.2.2.2.2.2.2.2.2.2.2.2.2.2.2.2.2.2.2.2.2.2.2.2.2.2.1 r65.2.2.2.2.2.2.2.2.2.2.2.2.2.2.2.2.2.2.2.2.2.2.2.2.2.2.2.2.2.2.2.1 r65.2.2.2.2.2.2.2.2.2.2.2.2.2.2.2.2.2.2.2.2.2.2.2.2.2.2.2.2.2.2.2.2.1 r65.2.2.2.2.2.2.2.2.2.2.2.2.2.2.2.2.2.2.2.2.2.2.2.2.2.2.2.2.2.2.2.2.2.1 r65.2.2.2.2.2.2.2.2.2.2.2.2.2.2.2.2.2.2.2.2.2.2.2.2.2.2.2.2.2.2.2.2.2.2.1 r65.2.2.2.2.2.2.2.2.2.2.2.2.2.2.2.2.2.2.2.2.2.2.2.2.2.2.2.2.2.2.2.2.2.2.2.1 r65.2.2.2.2.2.2.2.2.2.2.2.2.2.2.2.2.2.2.2.2.2.2.2.2.2.2.2.2.2.2.2.2.2.2.2.2.1 r65.2.2.2.2.2.2.2.2.2.2.2.2.2.2.2.2.2.2.2.2.2.2.2.2.2.2.2.2.2.2.2.2.2.2.2.2.2.1 r65.2.2.2.2.2.2.2.2.2.2.2.2.2.2.2.2.2.2.2.2.2.2.2.2.2.2.2.2.2.2.2.2.2.2.2.2.2.2.1 r65.2.2.2.2.2.2.2.2.2.2.2.2.2.2.2.2.2.2.2.2.2.2.2.2.2.2.2.2.2.2.2.2.2.2.2.2.2.2.2.1 r65.2.2.2.2.2.2.2.2.2.2.2.2.2.2.2.2.2.2.2.2.2.2.2.2.2.2.2.2.2.2.2.2.2.2.2.2.2.2.2.2.1 r65.2.2.2.2.2.2.2.2.2.2.2.2.2.2.2.2.2.2.2.2.2.2.2.2.2.2.2.2.2.2.2.2.2.2.2.2.2.2.2.2.2.1 r65.2.2.2.2.2.2.2.2.2.2.2.2.2.2.2.2.2.2.2.2.2.2.2.2.2.2.2.2.2.2.2.2.2.2.2.2.2.2.2.2.2.2.1 r65.2.2.2.2.2.2.2.2.2.2.2.2.2.2.2.2.2.2.2.2.2.2.2.2.2.2.2.2.2.2.2.2.2.2.2.2.2.2.2.2.2.2.2.1 r65.2.2.2.2.2.2.2.2.2.2.2.2.2.2.2.2.2.2.2.2.2.2.2.2.2.2.2.2.2.2.2.2.2.2.2.2.2.2.2.2.2.2.2.2.1 r65.2.2.2.2.2.2.2.2.2.2.2.2.2.2.2.2.2.2.2.2.2.2.2.2.2.2.2.2.2.2.2.2.2.2.2.2.2.2.2.2.2.2.2.2.2.1 r65.2.2.2.2.2.2.2.2.2.2.2.2.2.2.2.2.2.2.2.2.2.2.2.2.2.2.2.2.2.2.2.2.2.2.2.2.2.2.2.2.2.2.2.2.2.2.1 r65.2.2.2.2.2.2.2.2.2.2.2.2.2.2.2.2.2.2.2.2.2.2.2.2.2.2.2.2.2.2.2.2.2.2.2.2.2.2.2.2.2.2.2.2.2.2.2.1 r65.2.2.2.2.2.2.2.2.2.2.2.2.2.2.2.2.2.2.2.2.2.2.2.2.2.2.2.2.2.2.2.2.2.2.2.2.2.2.2.2.2.2.2.2.2.2.2.2.1 r65.2.2.2.2.2.2.2.2.2.2.2.2.2.2.2.2.2.2.2.2.2.2.2.2.2.2.2.2.2.2.2.2.2.2.2.2.2.2.2.2.2.2.2.2.2.2.2.2.2.1 r65.2.2.2.2.2.2.2.2.2.2.2.2.2.2.2.2.2.2.2.2.2.2.2.2.2.2.2.2.2.2.2.2.2.2.2.2.2.2.2.2.2.2.2.2.2.2.2.2.2.2.1 r65.2.2.2.2.2.2.2.2.2.2.2.2.2.2.2.2.2.2.2.2.2.2.2.2.2.2.2.2.2.2.2.2.2.2.2.2.2.2.2.2.2.2.2.2.2.2.2.2.2.2.2.1 r65.2.2.2.2.2.2.2.2.2.2.2.2.2.2.2.2.2.2.2.2.2.2.2.2.2.2.2.2.2.2.2.2.2.2.2.2.2.2.2.2.2.2.2.2.2.2.2.2.2.2.2.2.1 r65.2.2.2.2.2.2.2.2.2.2.2.2.2.2.2.2.2.2.2.2.2.2.2.2.2.2.2.2.2.2.2.2.2.2.2.2.2.2.2.2.2.2.2.2.2.2.2.2.2.2.2.2.2.1 r65.2.2.2.2.2.2.2.2.2.2.2.2.2.2.2.2.2.2.2.2.2.2.2.2.2.2.2.2.2.2.2.2.2.2.2.2.2.2.2.2.2.2.2.2.2.2.2.2.2.2.2.2.2.2.1 r65.2.2.2.2.2.2.2.2.2.2.2.2.2.2.2.2.2.2.2.2.2.2.2.2.2.2.2.2.2.2.2.2.2.2.2.2.2.2.2.2.2.2.2.2.2.2.2.2.2.2.2.2.2.2.2.1 r65.2.2.2.2.2.2.2.2.2.2.2.2.2.2.2.2.2.2.2.2.2.2.2.2.2.2.2.2.2.2.2.2.2.2.2.2.2.2.2.2.2.2.2.2.2.2.2.2.2.2.2.2.2.2.2.2.1 r65.2.2.2.2.2.2.2.2.2.2.2.2.2.2.2.2.2.2.2.2.2.2.2.2.2.2.2.2.2.2.2.2.2.2.2.2.2.2.2.2.2.2.2.2.2.2.2.2.2.2.2.2.2.2.2.2.2.1 r65.2.2.2.2.2.2.2.2.2.2.2.2.2.2.2.2.2.2.2.2.2.2.2.2.2.2.2.2.2.2.2.2.2.2.2.2.2.2.2.2.2.2.2.2.2.2.2.2.2.2.2.2.2.2.2.2.2.2.1 r65.2.2.2.2.2.2.2.2.2.2.2.2.2.2.2.2.2.2.2.2.2.2.2.2.2.2.2.2.2.2.2.2.2.2.2.2.2.2.2.2.2.2.2.2.2.2.2.2.2.2.2.2.2.2.2.2.2.2.2.1 r65.2.2.2.2.2.2.2.2.2.2.2.2.2.2.2.2.2.2.2.2.2.2.2.2.2.2.2.2.2.2.2.2.2.2.2.2.2.2.2.2.2.2.2.2.2.2.2.2.2.2.2.2.2.2.2.2.2.2.2.2.1 r65.2.2.2.2.2.2.2.2.2.2.2.2.2.2.2.2.2.2.2.2.2.2.2.2.2.2.2.2.2.2.2.2.2.2.2.2.2.2.2.2.2.2.2.2.2.2.2.2.2.2.2.2.2.2.2.2.2.2.2.2.2.1)) (
 some (.inr (x4,(x5,(x6,(x7,(x8,(x9,(x10,(x11,(x12,(x13,(x14,(x15,(x16,(x17,(x18,(x19,(x20,(x21,(x22,(x23,(x24,(x25,(x26,(x27,(x28,(x29,(x30,(x31,(x32,(x33,(x34,(x35,(x36,(x37,(x38,(x39,(x40,(x41,(x42,(x43,(x44,(x45,(x46,(x47,(x48,(x49,(x50,(x51,(x52,(x53,(x54,(x55,(x56,(x57,(x58,(x59,(x60,(x61,()))))))))))))))))))))))))))))))))))))))))))))))))))))))))))))
noncomputable def glazierlaw22_gone_i22_l1 (fl:Nat):Nat -> T9 -> Int -> Int -> Int -> (List T4) -> Int -> Int -> Int -> Int -> T7 -> Int -> Int -> Int -> Int -> Bool -> (List T1) -> Int -> T8 -> Bool -> Int -> Int -> Int -> Int -> Int -> Int -> Int -> Int -> Int -> Int -> (List T2) -> T6 -> (List T3) -> (List T4) -> Int -> Int -> Option (((Int × (List T4) × Int × Int × Int × Int × T7 × Int × Int × T8 × Bool × Int × Int × Int × Int × Int × Int × Int × Int × Int × Int × (List T2) × T6 × (List T3) × (List T4) × Int × Int × Unit) ⊕ (Int × (List T4) × Int × Int × Int × Int × T7 × Int × T8 × Bool × Int × Int × Int × Int × Int × Int × Int × Int × Int × Int × (List T2) × T6 × (List T3) × (List T4) × Int × Int × Unit)))
 | 0,_,_,_,_,_,_,_,_,_,_,_,_,_,_,_,_,_,_,_,_,_,_,_,_,_,_,_,_,_,_,_,_,_,_,_=>none
 | n + 1,x0,x1,x2,x3,x4,x5,x6,x7,x8,x9,x10,x11,x12,x13,x14,x15,x16,x17,x18,x19,x20,x21,x22,x23,x24,x25,x26,x27,x28,x29,x30,x31,x32,x33,x34=>
 bnd (F.lt x2 x1) fun v35=>
 bite v35 (
 obind (F.get x0 x2) fun q36=>
 obind (setup_Box fl x23 x24 q36.2) fun q37=>
 bnd (F.max q37.1 x19) fun v38=>
 bnd (F.max q37.2.1 x20) fun v39=>
 bnd (F.min q37.2.2.1 x21) fun v40=>
 bnd (F.min q37.2.2.2 x22) fun v41=>
 obind (setup_Pixels v38 v39 v40 v41) fun q42=>
 obind (glazierlaw22_gone_i34_l2 fl fl q42.2.1 q42.2.2.1 q42.2.2.2 q42.1 x0 x1 x2 q42 x3 x4 x5 x6 x7 x8 x9 x10 x11 x12 x13 x14 x15 q36.1 q36.2.1.1 q36.2.1.2.1 q36.2.1.2.2.1 q36.2.1.2.2.2.1 q36.2.1.2.2.2.2.1 q36.2.1.2.2.2.2.2.1 q36.2.1.2.2.2.2.2.2 q36.2.2.1.1 q36.2.2.1.2.1 q36.2.2.1.2.2.1 q36.2.2.1.2.2.2.1 q36.2.2.1.2.2.2.2.1 q36.2.2.1.2.2.2.2.2.1 q36.2.2.1.2.2.2.2.2.2 q36.2.2.2.1 q36.2.2.2.2.1 q36.2.2.2.2.2.1 q36.2.2.2.2.2.2.1 q36.2.2.2.2.2.2.2.1 q36.2.2.2.2.2.2.2.2.1 q36.2.2.2.2.2.2.2.2.2 x16 x17 x18 x19 x20 x21 x22 x23 x24 x25 x26 x27 x28 x29 x30 x31 x32 x33 x34) fun q43=>
 osum q43 (fun s44=>
 some (.inl (s44.2.2.2.2.1,(s44.2.2.2.2.2.1,(s44.2.2.2.2.2.2.1,(s44.2.2.2.2.2.2.2.1,(s44.2.2.2.2.2.2.2.2.1,(s44.2.2.2.2.2.2.2.2.2.1,(s44.2.2.2.2.2.2.2.2.2.2.1,(s44.2.2.2.2.2.2.2.2.2.2.2.1,(s44.2.2.2.2.2.2.2.2.2.2.2.2.2.2.2.2.2.2.2.2.2.2.2.2.2.2.2.2.2.2.2.2.2.2.2.2.2.2.2.2.1,(s44.2.2.2.2.2.2.2.2.2.2.2.2.2.2.2.2.2.2.2.2.2.2.2.2.2.2.2.2.2.2.2.2.2.2.2.2.2.2.2.2.2.1,(s44.2.2.2.2.2.2.2.2.2.2.2.2.2.2.2.2.2.2.2.2.2.2.2.2.2.2.2.2.2.2.2.2.2.2.2.2.2.2.2.2.2.2.1,(s44.2.2.2.2.2.2.2.2.2.2.2.2.2.2.2.2.2.2.2.2.2.2.2.2.2.2.2.2.2.2.2.2.2.2.2.2.2.2.2.2.2.2.2.1,(s44.2.2.2.2.2.2.2.2.2.2.2.2.2.2.2.2.2.2.2.2.2.2.2.2.2.2.2.2.2.2.2.2.2.2.2.2.2.2.2.2.2.2.2.2.1,(s44.2.2.2.2.2.2.2.2.2.2.2.2.2.2.2.2.2.2.2.2.2.2.2.2.2.2.2.2.2.2.2.2.2.2.2.2.2.2.2.2.2.2.2.2.2.1,(s44.2.2.2.2.2.2.2.2.2.2.2.2.2.2.2.2.2.2.2.2.2.2.2.2.2.2.2.2.2.2.2.2.2.2.2.2.2.2.2.2.2.2.2.2.2.2.1,(s44.2.2.2.2.2.2.2.2.2.2.2.2.2.2.2.2.2.2.2.2.2.2.2.2.2.2.2.2.2.2.2.2.2.2.2.2.2.2.2.2.2.2.2.2.2.2.2.1,(s44.2.2.2.2.2.2.2.2.2.2.2.2.2.2.2.2.2.2.2.2.2.2.2.2.2.2.2.2.2.2.2.2.2.2.2.2.2.2.2.2.2.2.2.2.2.2.2.2.1,(s44.2.2.2.2.2.2.2.2.2.2.2.2.2.2.2.2.2.2.2.2.2.2.2.2.2.2.2.2.2.2.2.2.2.2.2.2.2.2.2.2.2.2.2.2.2.2.2.2.2.1,(s44.2.2.2.2.2.2.2.2.2.2.2.2.2.2.2.2.2.2.2.2.2.2.2.2.2.2.2.2.2.2.2.2.2.2.2.2.2.2.2.2.2.2.2.2.2.2.2.2.2.2.1,(s44.2.2.2.2.2.2.2.2.2.2.2.2.2.2.2.2.2.2.2.2.2.2.2.2.2.2.2.2.2.2.2.2.2.2.2.2.2.2.2.2.2.2.2.2.2.2.2.2.2.2.2.1,(s44.2.2.2.2.2.2.2.2.2.2.2.2.2.2.2.2.2.2.2.2.2.2.2.2.2.2.2.2.2.2.2.2.2.2.2.2.2.2.2.2.2.2.2.2.2.2.2.2.2.2.2.2.1,(s44.2.2.2.2.2.2.2.2.2.2.2.2.2.2.2.2.2.2.2.2.2.2.2.2.2.2.2.2.2.2.2.2.2.2.2.2.2.2.2.2.2.2.2.2.2.2.2.2.2.2.2.2.2.1,(s44.2.2.2.2.2.2.2.2.2.2.2.2.2.2.2.2.2.2.2.2.2.2.2.2.2.2.2.2.2.2.2.2.2.2.2.2.2.2.2.2.2.2.2.2.2.2.2.2.2.2.2.2.2.2.1,(s44.2.2.2.2.2.2.2.2.2.2.2.2.2.2.2.2.2.2.2.2.2.2.2.2.2.2.2.2.2.2.2.2.2.2.2.2.2.2.2.2.2.2.2.2.2.2.2.2.2.2.2.2.2.2.2.1,(s44.2.2.2.2.2.2.2.2.2.2.2.2.2.2.2.2.2.2.2.2.2.2.2.2.2.2.2.2.2.2.2.2.2.2.2.2.2.2.2.2.2.2.2.2.2.2.2.2.2.2.2.2.2.2.2.2.1,(s44.2.2.2.2.2.2.2.2.2.2.2.2.2.2.2.2.2.2.2.2.2.2.2.2.2.2.2.2.2.2.2.2.2.2.2.2.2.2.2.2.2.2.2.2.2.2.2.2.2.2.2.2.2.2.2.2.2.1,(s44.2.2.2.2.2.2.2.2.2.2.2.2.2.2.2.2.2.2.2.2.2.2.2.2.2.2.2.2.2.2.2.2.2.2.2.2.2.2.2.2.2.2.2.2.2.2.2.2.2.2.2.2.2.2.2.2.2.2.1,()))))))))))))))))))))))))))))) (fun r45=>
 bnd (F.add .i64 r45.2.2.1 1) fun v46=>
 glazierlaw22_gone_i22_l1 fl n r45.1 r45.2.1 v46 r45.2.2.2.2.1 r45.2.2.2.2.2.1 r45.2.2.2.2.2.2.1 r45.2.2.2.2.2.2.2.1 r45.2.2.2.2.2.2.2.2.1 r45.2.2.2.2.2.2.2.2.2.1 r45.2.2.2.2.2.2.2.2.2.2.1 r45.2.2.2.2.2.2.2.2.2.2.2.1 r45.2.2.2.2.2.2.2.2.2.2.2.2.1 r45.2.2.2.2.2.2.2.2.2.2.2.2.2.1 r45.2.2.2.2.2.2.2.2.2.2.2.2.2.2.1 r45.2.2.2.2.2.2.2.2.2.2.2.2.2.2.2.1 r45.2.2.2.2.2.2.2.2.2.2.2.2.2.2.2.2.1 r45.2.2.2.2.2.2.2.2.2.2.2.2.2.2.2.2.2.2.2.2.2.2.2.2.2.2.2.2.2.2.2.2.2.2.2.2.2.2.2.1 r45.2.2.2.2.2.2.2.2.2.2.2.2.2.2.2.2.2.2.2.2.2.2.2.2.2.2.2.2.2.2.2.2.2.2.2.2.2.2.2.2.1 r45.2.2.2.2.2.2.2.2.2.2.2.2.2.2.2.2.2.2.2.2.2.2.2.2.2.2.2.2.2.2.2.2.2.2.2.2.2.2.2.2.2.1 r45.2.2.2.2.2.2.2.2.2.2.2.2.2.2.2.2.2.2.2.2.2.2.2.2.2.2.2.2.2.2.2.2.2.2.2.2.2.2.2.2.2.2.1 r45.2.2.2.2.2.2.2.2.2.2.2.2.2.2.2.2.2.2.2.2.2.2.2.2.2.2.2.2.2.2.2.2.2.2.2.2.2.2.2.2.2.2.2.1 r45.2.2.2.2.2.2.2.2.2.2.2.2.2.2.2.2.2.2.2.2.2.2.2.2.2.2.2.2.2.2.2.2.2.2.2.2.2.2.2.2.2.2.2.2.1 r45.2.2.2.2.2.2.2.2.2.2.2.2.2.2.2.2.2.2.2.2.2.2.2.2.2.2.2.2.2.2.2.2.2.2.2.2.2.2.2.2.2.2.2.2.2.1 r45.2.2.2.2.2.2.2.2.2.2.2.2.2.2.2.2.2.2.2.2.2.2.2.2.2.2.2.2.2.2.2.2.2.2.2.2.2.2.2.2.2.2.2.2.2.2.1 r45.2.2.2.2.2.2.2.2.2.2.2.2.2.2.2.2.2.2.2.2.2.2.2.2.2.2.2.2.2.2.2.2.2.2.2.2.2.2.2.2.2.2.2.2.2.2.2.1 r45.2.2.2.2.2.2.2.2.2.2.2.2.2.2.2.2.2.2.2.2.2.2.2.2.2.2.2.2.2.2.2.2.2.2.2.2.2.2.2.2.2.2.2.2.2.2.2.2.1 r45.2.2.2.2.2.2.2.2.2.2.2.2.2.2.2.2.2.2.2.2.2.2.2.2.2.2.2.2.2.2.2.2.2.2.2.2.2.2.2.2.2.2.2.2.2.2.2.2.2.1 r45.2.2.2.2.2.2.2.2.2.2.2.2.2.2.2.2.2.2.2.2.2.2.2.2.2.2.2.2.2.2.2.2.2.2.2.2.2.2.2.2.2.2.2.2.2.2.2.2.2.2.1 r45.2.2.2.2.2.2.2.2.2.2.2.2.2.2.2.2.2.2.2.2.2.2.2.2.2.2.2.2.2.2.2.2.2.2.2.2.2.2.2.2.2.2.2.2.2.2.2.2.2.2.2.1 r45.2.2.2.2.2.2.2.2.2.2.2.2.2.2.2.2.2.2.2.2.2.2.2.2.2.2.2.2.2.2.2.2.2.2.2.2.2.2.2.2.2.2.2.2.2.2.2.2.2.2.2.2.1 r45.2.2.2.2.2.2.2.2.2.2.2.2.2.2.2.2.2.2.2.2.2.2.2.2.2.2.2.2.2.2.2.2.2.2.2.2.2.2.2.2.2.2.2.2.2.2.2.2.2.2.2.2.2.1 r45.2.2.2.2.2.2.2.2.2.2.2.2.2.2.2.2.2.2.2.2.2.2.2.2.2.2.2.2.2.2.2.2.2.2.2.2.2.2.2.2.2.2.2.2.2.2.2.2.2.2.2.2.2.2.1 r45.2.2.2.2.2.2.2.2.2.2.2.2.2.2.2.2.2.2.2.2.2.2.2.2.2.2.2.2.2.2.2.2.2.2.2.2.2.2.2.2.2.2.2.2.2.2.2.2.2.2.2.2.2.2.2.1 r45.2.2.2.2.2.2.2.2.2.2.2.2.2.2.2.2.2.2.2.2.2.2.2.2.2.2.2.2.2.2.2.2.2.2.2.2.2.2.2.2.2.2.2.2.2.2.2.2.2.2.2.2.2.2.2.2.1 r45.2.2.2.2.2.2.2.2.2.2.2.2.2.2.2.2.2.2.2.2.2.2.2.2.2.2.2.2.2.2.2.2.2.2.2.2.2.2.2.2.2.2.2.2.2.2.2.2.2.2.2.2.2.2.2.2.2.1)) (
 some (.inr (x3,(x4,(x5,(x6,(x7,(x8,(x9,(x16,(x17,(x18,(x19,(x20,(x21,(x22,(x23,(x24,(x25,(x26,(x27,(x28,(x29,(x30,(x31,(x32,(x33,(x34,()))))))))))))))))))))))))))))
noncomputable def glazierlaw22_gone_i31_l1 (fl:Nat):Nat -> Int -> (List T4) -> Int -> Int -> Int -> Int -> T7 -> Int -> T8 -> Bool -> Int -> Int -> Int -> Int -> Int -> Int -> Int -> Int -> Int -> Int -> (List T2) -> T6 -> (List T3) -> (List T4) -> Int -> Int -> Option (((T7 × Int × Int × T8 × Bool × Int × Int × Int × Int × Int × Int × Int × Int × Int × Int × (List T2) × T6 × (List T3) × (List T4) × Int × Int × Unit) ⊕ ((List T4) × Int × Int × T7 × Int × T8 × Bool × Int × Int × Int × Int × Int × Int × Int × Int × Int × Int × (List T2) × T6 × (List T3) × (List T4) × Int × Int × Unit)))
 | 0,_,_,_,_,_,_,_,_,_,_,_,_,_,_,_,_,_,_,_,_,_,_,_,_,_,_=>none
 | n + 1,x0,x1,x2,x3,x4,x5,x6,x7,x8,x9,x10,x11,x12,x13,x14,x15,x16,x17,x18,x19,x20,x21,x22,x23,x24,x25=>
 bnd (F.lt x5 x4) fun v26=>
 bite v26 (
 obind (F.get x23 x0) fun q27=>
 bnd (F.bne q27.2.2.2.1 x9) fun v28=>
 bite v28 (
 bnd (F.add .i64 x5 1) fun v29=>
 glazierlaw22_gone_i31_l1 fl n x0 x1 x2 x3 x4 v29 x6 x7 x8 x9 x10 x11 x12 x13 x14 x15 x16 x17 x18 x19 x20 x21 x22 x23 x24 x25) (
 obind (F.get q27.2.2.2.2 x5) fun q30=>
 obind (frags_Maker__parts fl (x14,(x15,(x16,(x17,(x18,(x19,(x20,(x21,(x22,(x23,(x24,x25))))))))))) q30) fun q31=>
 bnd (F.len q31) fun v32=>
 obind (glazierlaw22_gone_i22_l1 fl fl q31 v32 0 x0 x1 x2 x3 x4 x5 x6 x5 q27.1 q27.2.1 q27.2.2.1 q27.2.2.2.1 q27.2.2.2.2 x7 x8 x9 x10 x11 x12 x13 x14 x15 x16 x17 x18 x19 x20 x21 x22 x23 x24 x25) fun q33=>
 osum q33 (fun s34=>
 some (.inl (s34.2.2.2.2.2.2.1,(s34.2.2.2.2.2.2.2.1,(s34.2.2.2.2.2.2.2.2.1,(s34.2.2.2.2.2.2.2.2.2.1,(s34.2.2.2.2.2.2.2.2.2.2.1,(s34.2.2.2.2.2.2.2.2.2.2.2.1,(s34.2.2.2.2.2.2.2.2.2.2.2.2.1,(s34.2.2.2.2.2.2.2.2.2.2.2.2.2.1,(s34.2.2.2.2.2.2.2.2.2.2.2.2.2.2.1,(s34.2.2.2.2.2.2.2.2.2.2.2.2.2.2.2.1,(s34.2.2.2.2.2.2.2.2.2.2.2.2.2.2.2.2.1,(s34.2.2.2.2.2.2.2.2.2.2.2.2.2.2.2.2.2.1,(s34.2.2.2.2.2.2.2.2.2.2.2.2.2.2.2.2.2.2.1,(s34.2.2.2.2.2.2.2.2.2.2.2.2.2.2.2.2.2.2.2.1,(s34.2.2.2.2.2.2.2.2.2.2.2.2.2.2.2.2.2.2.2.2.1,(s34.2.2.2.2.2.2.2.2.2.2.2.2.2.2.2.2.2.2.2.2.2.1,(s34.2.2.2.2.2.2.2.2.2.2.2.2.2.2.2.2.2.2.2.2.2.2.1,(s34.2.2.2.2.2.2.2.2.2.2.2.2.2.2.2.2.2.2.2.2.2.2.2.1,(s34.2.2.2.2.2.2.2.2.2.2.2.2.2.2.2.2.2.2.2.2.2.2.2.2.1,(s34.2.2.2.2.2.2.2.2.2.2.2.2.2.2.2.2.2.2.2.2.2.2.2.2.2.1,(s34.2.2.2.2.2.2.2.2.2.2.2.2.2.2.2.2.2.2.2.2.2.2.2.2.2.2.1,()))))))))))))))))))))))) (fun r35=>
 bnd (F.add .i64 r35.2.2.2.2.2.1 1) fun v36=>
 glazierlaw22_gone_i31_l1 fl n r35.1 r35.2.1 r35.2.2.1 r35.2.2.2.1 r35.2.2.2.2.1 v36 r35.2.2.2.2.2.2.1 r35.2.2.2.2.2.2.2.1 r35.2.2.2.2.2.2.2.2.1 r35.2.2.2.2.2.2.2.2.2.1 r35.2.2.2.2.2.2.2.2.2.2.1 r35.2.2.2.2.2.2.2.2.2.2.2.1 r35.2.2.2.2.2.2.2.2.2.2.2.2.1 r35.2.2.2.2.2.2.2.2.2.2.2.2.2.1 r35.2.2.2.2.2.2.2.2.2.2.2.2.2.2.1 r35.2.2.2.2.2.2.2.2.2.2.2.2.2.2.2.1 r35.2.2.2.2.2.2.2.2.2.2.2.2.2.2.2.2.1 r35.2.2.2.2.2.2.2.2.2.2.2.2.2.2.2.2.2.1 r35.2.2.2.2.2.2.2.2.2.2.2.2.2.2.2.2.2.2.1 r35.2.2.2.2.2.2.2.2.2.2.2.2.2.2.2.2.2.2.2.1 r35.2.2.2.2.2.2.2.2.2.2.2.2.2.2.2.2.2.2.2.2.1 r35.2.2.2.2.2.2.2.2.2.2.2.2.2.2.2.2.2.2.2.2.2.1 r35.2.2.2.2.2.2.2.2.2.2.2.2.2.2.2.2.2.2.2.2.2.2.1 r35.2.2.2.2.2.2.2.2.2.2.2.2.2.2.2.2.2.2.2.2.2.2.2.1 r35.2.2.2.2.2.2.2.2.2.2.2.2.2.2.2.2.2.2.2.2.2.2.2.2.1 r35.2.2.2.2.2.2.2.2.2.2.2.2.2.2.2.2.2.2.2.2.2.2.2.2.2.1))) (
 some (.inr (x1,(x2,(x3,(x6,(x7,(x8,(x9,(x10,(x11,(x12,(x13,(x14,(x15,(x16,(x17,(x18,(x19,(x20,(x21,(x22,(x23,(x24,(x25,())))))))))))))))))))))))))
noncomputable def glazierlaw22_gone_i31_l2 (fl:Nat):Nat -> (List T4) -> Int -> Int -> T7 -> Int -> T8 -> Bool -> Int -> Int -> Int -> Int -> Int -> Int -> Int -> Int -> Int -> Int -> (List T2) -> T6 -> (List T3) -> (List T4) -> Int -> Int -> Option (((T7 × Int × Int × T8 × Bool × Int × Int × Int × Int × Int × Int × Int × Int × Int × Int × (List T2) × T6 × (List T3) × (List T4) × Int × Int × Unit) ⊕ (T7 × Int × T8 × Bool × Int × Int × Int × Int × Int × Int × Int × Int × Int × Int × (List T2) × T6 × (List T3) × (List T4) × Int × Int × Unit)))
 | 0,_,_,_,_,_,_,_,_,_,_,_,_,_,_,_,_,_,_,_,_,_,_,_=>none
 | n + 1,x0,x1,x2,x3,x4,x5,x6,x7,x8,x9,x10,x11,x12,x13,x14,x15,x16,x17,x18,x19,x20,x21,x22=>
 bnd (F.lt x2 x1) fun v23=>
 bite v23 (
 obind (F.get x0 x2) fun q24=>
 bnd (F.len q24.2.2.2.2) fun v25=>
 obind (glazierlaw22_gone_i31_l1 fl fl x2 x0 x1 x2 v25 0 x3 x4 x5 x6 x7 x8 x9 x10 x11 x12 x13 x14 x15 x16 x17 x18 x19 x20 x21 x22) fun q26=>
 osum q26 (fun s27=>
 some (.inl (s27.1,(s27.2.1,(s27.2.2.1,(s27.2.2.2.1,(s27.2.2.2.2.1,(s27.2.2.2.2.2.1,(s27.2.2.2.2.2.2.1,(s27.2.2.2.2.2.2.2.1,(s27.2.2.2.2.2.2.2.2.1,(s27.2.2.2.2.2.2.2.2.2.1,(s27.2.2.2.2.2.2.2.2.2.2.1,(s27.2.2.2.2.2.2.2.2.2.2.2.1,(s27.2.2.2.2.2.2.2.2.2.2.2.2.1,(s27.2.2.2.2.2.2.2.2.2.2.2.2.2.1,(s27.2.2.2.2.2.2.2.2.2.2.2.2.2.2.1,(s27.2.2.2.2.2.2.2.2.2.2.2.2.2.2.2.1,(s27.2.2.2.2.2.2.2.2.2.2.2.2.2.2.2.2.1,(s27.2.2.2.2.2.2.2.2.2.2.2.2.2.2.2.2.2.1,(s27.2.2.2.2.2.2.2.2.2.2.2.2.2.2.2.2.2.2.1,(s27.2.2.2.2.2.2.2.2.2.2.2.2.2.2.2.2.2.2.2.1,(s27.2.2.2.2.2.2.2.2.2.2.2.2.2.2.2.2.2.2.2.2.1,()))))))))))))))))))))))) (fun r28=>
 bnd (F.add .i64 r28.2.2.1 1) fun v29=>
 glazierlaw22_gone_i31_l2 fl n r28.1 r28.2.1 v29 r28.2.2.2.1 r28.2.2.2.2.1 r28.2.2.2.2.2.1 r28.2.2.2.2.2.2.1 r28.2.2.2.2.2.2.2.1 r28.2.2.2.2.2.2.2.2.1 r28.2.2.2.2.2.2.2.2.2.1 r28.2.2.2.2.2.2.2.2.2.2.1 r28.2.2.2.2.2.2.2.2.2.2.2.1 r28.2.2.2.2.2.2.2.2.2.2.2.2.1 r28.2.2.2.2.2.2.2.2.2.2.2.2.2.1 r28.2.2.2.2.2.2.2.2.2.2.2.2.2.2.1 r28.2.2.2.2.2.2.2.2.2.2.2.2.2.2.2.1 r28.2.2.2.2.2.2.2.2.2.2.2.2.2.2.2.2.1 r28.2.2.2.2.2.2.2.2.2.2.2.2.2.2.2.2.2.1 r28.2.2.2.2.2.2.2.2.2.2.2.2.2.2.2.2.2.2.1 r28.2.2.2.2.2.2.2.2.2.2.2.2.2.2.2.2.2.2.2.1 r28.2.2.2.2.2.2.2.2.2.2.2.2.2.2.2.2.2.2.2.2.1 r28.2.2.2.2.2.2.2.2.2.2.2.2.2.2.2.2.2.2.2.2.2.1 r28.2.2.2.2.2.2.2.2.2.2.2.2.2.2.2.2.2.2.2.2.2.2.1)) (
 some (.inr (x3,(x4,(x5,(x6,(x7,(x8,(x9,(x10,(x11,(x12,(x13,(x14,(x15,(x16,(x17,(x18,(x19,(x20,(x21,(x22,()))))))))))))))))))))))
noncomputable def glazierlaw22_gone (fl:Nat) (x0:T12 × Int × Int) (x1:T1) (x2:Bool) (x3:Int):Option ((T8 × Bool) × (T12 × Int × Int)):=
 obind (scene_Each x0.1) fun q3=>
 bnd (F.len q3.2.2.2.2.2.2.2.2.2) fun v4=>
 obind (glazierlaw22_gone_i31_l2 fl fl q3.2.2.2.2.2.2.2.2.2 v4 0 q3 x3 [] x2 x1.1 x1.2.1 x1.2.2.1 x1.2.2.2 x0.1.1 x0.1.2.1 x0.1.2.2.1.1 x0.1.2.2.1.2.1 x0.1.2.2.1.2.2.1 x0.1.2.2.1.2.2.2 x0.1.2.2.2.1 x0.1.2.2.2.2.1 x0.1.2.2.2.2.2.1 x0.1.2.2.2.2.2.2 x0.2.1 x0.2.2) fun q5=>
 osum q5 (fun s6=>
 bite (F.eq s6.2.1 0) (
 some ((s6.2.2.2.1,true),((s6.2.2.2.2.2.2.2.2.2.1,(s6.2.2.2.2.2.2.2.2.2.2.1,((s6.2.2.2.2.2.2.2.2.2.2.2.1,(s6.2.2.2.2.2.2.2.2.2.2.2.2.1,(s6.2.2.2.2.2.2.2.2.2.2.2.2.2.1,s6.2.2.2.2.2.2.2.2.2.2.2.2.2.2.1))),(s6.2.2.2.2.2.2.2.2.2.2.2.2.2.2.2.1,(s6.2.2.2.2.2.2.2.2.2.2.2.2.2.2.2.2.1,(s6.2.2.2.2.2.2.2.2.2.2.2.2.2.2.2.2.2.1,s6.2.2.2.2.2.2.2.2.2.2.2.2.2.2.2.2.2.2.1)))))),(s6.2.2.2.2.2.2.2.2.2.2.2.2.2.2.2.2.2.2.2.1,s6.2.2.2.2.2.2.2.2.2.2.2.2.2.2.2.2.2.2.2.2.1)))) (
 bite (F.eq s6.2.1 2) (
 some (([],false),((s6.2.2.2.2.2.2.2.2.2.1,(s6.2.2.2.2.2.2.2.2.2.2.1,((s6.2.2.2.2.2.2.2.2.2.2.2.1,(s6.2.2.2.2.2.2.2.2.2.2.2.2.1,(s6.2.2.2.2.2.2.2.2.2.2.2.2.2.1,s6.2.2.2.2.2.2.2.2.2.2.2.2.2.2.1))),(s6.2.2.2.2.2.2.2.2.2.2.2.2.2.2.2.1,(s6.2.2.2.2.2.2.2.2.2.2.2.2.2.2.2.2.1,(s6.2.2.2.2.2.2.2.2.2.2.2.2.2.2.2.2.2.1,s6.2.2.2.2.2.2.2.2.2.2.2.2.2.2.2.2.2.2.1)))))),(s6.2.2.2.2.2.2.2.2.2.2.2.2.2.2.2.2.2.2.2.1,s6.2.2.2.2.2.2.2.2.2.2.2.2.2.2.2.2.2.2.2.2.1)))) (
 bgd (F.eq s6.2.1 3) (
 some ((s6.2.2.2.1,true),((s6.2.2.2.2.2.2.2.2.2.1,(s6.2.2.2.2.2.2.2.2.2.2.1,((s6.2.2.2.2.2.2.2.2.2.2.2.1,(s6.2.2.2.2.2.2.2.2.2.2.2.2.1,(s6.2.2.2.2.2.2.2.2.2.2.2.2.2.1,s6.2.2.2.2.2.2.2.2.2.2.2.2.2.2.1))),(s6.2.2.2.2.2.2.2.2.2.2.2.2.2.2.2.1,(s6.2.2.2.2.2.2.2.2.2.2.2.2.2.2.2.2.1,(s6.2.2.2.2.2.2.2.2.2.2.2.2.2.2.2.2.2.1,s6.2.2.2.2.2.2.2.2.2.2.2.2.2.2.2.2.2.2.1)))))),(s6.2.2.2.2.2.2.2.2.2.2.2.2.2.2.2.2.2.2.2.1,s6.2.2.2.2.2.2.2.2.2.2.2.2.2.2.2.2.2.2.2.2.1))))))) (fun r7=>
 some ((r7.2.2.1,true),((r7.2.2.2.2.2.2.2.2.1,(r7.2.2.2.2.2.2.2.2.2.1,((r7.2.2.2.2.2.2.2.2.2.2.1,(r7.2.2.2.2.2.2.2.2.2.2.2.1,(r7.2.2.2.2.2.2.2.2.2.2.2.2.1,r7.2.2.2.2.2.2.2.2.2.2.2.2.2.1))),(r7.2.2.2.2.2.2.2.2.2.2.2.2.2.2.1,(r7.2.2.2.2.2.2.2.2.2.2.2.2.2.2.2.1,(r7.2.2.2.2.2.2.2.2.2.2.2.2.2.2.2.2.1,r7.2.2.2.2.2.2.2.2.2.2.2.2.2.2.2.2.2.1)))))),(r7.2.2.2.2.2.2.2.2.2.2.2.2.2.2.2.2.2.2.1,r7.2.2.2.2.2.2.2.2.2.2.2.2.2.2.2.2.2.2.2.1))))
noncomputable def frags_Maker__Made (x0:Int × Int × Int × Int × Int × Int × (List T2) × T6 × (List T3) × (List T4) × Int × Int):Option (Int):=
 some x0.2.2.2.2.2.2.2.2.2.2.1
noncomputable def frags_Maker__Steps (x0:Int × Int × Int × Int × Int × Int × (List T2) × T6 × (List T3) × (List T4) × Int × Int):Option (Int):=
 some x0.2.2.2.2.2.2.2.2.2.2.2
noncomputable def glazierlaw22_shown (fl:Nat) :Option (Bool):=
 obind glazierlaw22_plain fun q0=>
 obind (glazierlaw22_gone fl (q0,(0,0)) (0,(0,(2,2))) false 100) fun q1=>
 bite q1.1.2 (
 bnd (F.len q1.1.1) fun v2=>
 bnd (F.eq v2 4) fun v3=>
 bite v3 (
 obind (F.get q1.1.1 0) fun q4=>
 bnd (F.eq q4.2.2.1 15) fun v5=>
 bite v5 (
 obind (F.get q1.1.1 3) fun q6=>
 bnd (F.eq q6.1 1) fun v7=>
 bite v7 (
 obind (F.get q1.1.1 3) fun q8=>
 bnd (F.eq q8.2.1 1) fun v9=>
 bite v9 (
 obind (frags_Maker__Made (q1.2.1.1,(q1.2.1.2.1,(q1.2.1.2.2.1.1,(q1.2.1.2.2.1.2.1,(q1.2.1.2.2.1.2.2.1,(q1.2.1.2.2.1.2.2.2,(q1.2.1.2.2.2.1,(q1.2.1.2.2.2.2.1,(q1.2.1.2.2.2.2.2.1,(q1.2.1.2.2.2.2.2.2,q1.2.2))))))))))) fun q10=>
 bnd (F.eq q10 4) fun v11=>
 bite v11 (
 obind (frags_Maker__Steps (q1.2.1.1,(q1.2.1.2.1,(q1.2.1.2.2.1.1,(q1.2.1.2.2.1.2.1,(q1.2.1.2.2.1.2.2.1,(q1.2.1.2.2.1.2.2.2,(q1.2.1.2.2.2.1,(q1.2.1.2.2.2.2.1,(q1.2.1.2.2.2.2.2.1,(q1.2.1.2.2.2.2.2.2,q1.2.2))))))))))) fun q12=>
 bnd (F.eq q12 4) fun v13=>
 some v13) (
 some false)) (
 some false)) (
 some false)) (
 some false)) (
 some false)) (
 some false)
noncomputable def glazierref14_mod (x0 x1:Int):Option (Int):=
 bgd (F.nonzero x1) (
 bnd (F.rem x0 x1) fun v2=>
 bnd (F.lt v2 0) fun v3=>
 bite v3 (
 bnd (F.add .i64 v2 x1) fun v4=>
 some v4) (
 some v2))
noncomputable def glazierref01_Div255 (x0:Int):Option (Int):=
 bnd (F.lt x0 0) fun v1=>
 bite v1 (
 some 0) (
 bnd (F.gt x0 65025) fun v2=>
 bite v2 (
 some 255) (
 bnd (F.mul .i64 2 x0) fun v3=>
 bnd (F.add .i64 v3 255) fun v4=>
 bnd (F.quo .i64 v4 510) fun v5=>
 some v5))
noncomputable def glazierref02_part (x0 x1:Int):Option (Int):=
 bnd (F.conv .i64 x0) fun v2=>
 bnd (F.conv .i64 x1) fun v3=>
 bnd (F.mul .i64 v2 v3) fun v4=>
 obind (glazierref01_Div255 v4) fun q5=>
 bnd (F.conv .u8 q5) fun v6=>
 some v6
noncomputable def glazierref02_Pre (x0:T1):Option T1:=
 obind (glazierref02_part x0.1 x0.2.2.2) fun q1=>
 obind (glazierref02_part x0.2.1 x0.2.2.2) fun q2=>
 obind (glazierref02_part x0.2.2.1 x0.2.2.2) fun q3=>
 some (q1,(q2,(q3,x0.2.2.2)))
noncomputable def glazierref04_Fit (x0:T2):Option T2:=
 bnd (F.rem x0.1 32769) fun v1=>
 bnd (F.rem x0.2.1 32769) fun v2=>
 bnd (F.rem x0.2.2.1 32769) fun v3=>
 bnd (F.rem x0.2.2.2.1 32768) fun v4=>
 bnd (F.lt v4 0) fun v5=>
 bite v5 (
 bnd (F.neg .i64 v4) fun v6=>
 bnd (F.add .i64 1 v6) fun v7=>
 bnd (F.rem x0.2.2.2.2.1 4097) fun v8=>
 bnd (F.rem x0.2.2.2.2.2.1 4097) fun v9=>
 bnd (F.rem x0.2.2.2.2.2.2.1 4097) fun v10=>
 bnd (F.rem x0.2.2.2.2.2.2.2 4097) fun v11=>
 some (v1,(v2,(v3,(v7,(v8,(v9,(v10,v11)))))))) (
 bnd (F.add .i64 1 v4) fun v12=>
 bnd (F.rem x0.2.2.2.2.1 4097) fun v13=>
 bnd (F.rem x0.2.2.2.2.2.1 4097) fun v14=>
 bnd (F.rem x0.2.2.2.2.2.2.1 4097) fun v15=>
 bnd (F.rem x0.2.2.2.2.2.2.2 4097) fun v16=>
 some (v1,(v2,(v3,(v12,(v13,(v14,(v15,v16))))))))
noncomputable def glazierlaw22_FragsKinds_i15_l1 (fl:Nat):Nat -> Int -> Bool -> Int -> Int -> Int -> Int -> Int -> Int -> (List T2) -> T6 -> (List T3) -> (List T4) -> Int -> Int -> Int -> Int -> Int -> Int -> (List T2) -> Int -> Int -> Int -> Int -> Int -> Int -> (List T2) -> T6 -> (List T3) -> (List T4) -> Option (Bool × Int × Int × Int × Int × Int × Int × (List T2) × T6 × (List T3) × (List T4) × Int × Int × Int × Int × Int × Int × (List T2) × Int × Int × Int × Int × Int × Int × (List T2) × T6 × (List T3) × (List T4) × Unit)
 | 0,_,_,_,_,_,_,_,_,_,_,_,_,_,_,_,_,_,_,_,_,_,_,_,_,_,_,_,_,_=>none
 | n + 1,x0,x1,x2,x3,x4,x5,x6,x7,x8,x9,x10,x11,x12,x13,x14,x15,x16,x17,x18,x19,x20,x21,x22,x23,x24,x25,x26,x27,x28=>
 bnd (F.len x8) fun v29=>
 bnd (F.lt x0 v29) fun v30=>
 bite v30 (
 bnd (F.lt x0 9) fun v31=>
 bite v31 (
 obind (F.get x8 x0) fun q32=>
 obind (glazierref04_Fit q32) fun q33=>
 bgd (F.appOk 64 x18 [q33]) (
 bnd (F.app x18 [q33]) fun v34=>
 bnd (F.add .i64 x0 1) fun v35=>
 glazierlaw22_FragsKinds_i15_l1 fl n v35 x1 x2 x3 x4 x5 x6 x7 x8 x9 x10 x11 x12 x13 x14 x15 x16 x17 v34 x19 x20 x21 x22 x23 x24 x25 x26 x27 x28)) (
 some (x1,(x2,(x3,(x4,(x5,(x6,(x7,(x8,(x9,(x10,(x11,(x12,(x13,(x14,(x15,(x16,(x17,(x18,(x19,(x20,(x21,(x22,(x23,(x24,(x25,(x26,(x27,(x28,())))))))))))))))))))))))))))))) (
 some (x1,(x2,(x3,(x4,(x5,(x6,(x7,(x8,(x9,(x10,(x11,(x12,(x13,(x14,(x15,(x16,(x17,(x18,(x19,(x20,(x21,(x22,(x23,(x24,(x25,(x26,(x27,(x28,())))))))))))))))))))))))))))))
noncomputable def glazierref11_wrap (x0 x1:Int):Option (Int):=
 bgd (F.nonzero x1) (
 bnd (F.rem x0 x1) fun v2=>
 bnd (F.lt v2 0) fun v3=>
 bite v3 (
 bnd (F.add .i64 v2 x1) fun v4=>
 some v4) (
 some v2))
noncomputable def glazierref11_Fit_l1 (fl:Nat):Nat -> Int -> Int -> Int -> (List T1) -> Int -> Int -> (List T1) -> Option (Int × Int × (List T1) × Unit)
 | 0,_,_,_,_,_,_,_=>none
 | n + 1,x0,x1,x2,x3,x4,x5,x6=>
 bnd (F.mul .i64 x4 x5) fun v7=>
 bnd (F.lt x0 v7) fun v8=>
 bite v8 (
 bnd (F.mul .i64 x0 16) fun v9=>
 bnd (F.conv .u8 v9) fun v10=>
 bnd (F.conv .u8 x0) fun v11=>
 bnd (F.len x3) fun v12=>
 bnd (F.lt x0 v12) fun v13=>
 bite v13 (
 obind (F.get x3 x0) fun q14=>
 bgd (F.appOk 4 x6 [q14]) (
 bnd (F.app x6 [q14]) fun v15=>
 bnd (F.add .i64 x0 1) fun v16=>
 glazierref11_Fit_l1 fl n v16 x1 x2 x3 x4 x5 v15)) (
 bgd (F.appOk 4 x6 [(v10,(v11,(7,255)))]) (
 bnd (F.app x6 [(v10,(v11,(7,255)))]) fun v17=>
 bnd (F.add .i64 x0 1) fun v18=>
 glazierref11_Fit_l1 fl n v18 x1 x2 x3 x4 x5 v17))) (
 some (x4,(x5,(x6,()))))
noncomputable def glazierref11_Fit (fl:Nat) (x0:Int × Int × List T1):Option (Int × Int × List T1):=
 obind (glazierref11_wrap x0.1 16) fun q1=>
 bnd (F.add .i64 1 q1) fun v2=>
 obind (glazierref11_wrap x0.2.1 16) fun q3=>
 bnd (F.add .i64 1 q3) fun v4=>
 obind (glazierref11_Fit_l1 fl fl 0 x0.1 x0.2.1 x0.2.2 v2 v4 []) fun q5=>
 some (q5.1,(q5.2.1,q5.2.2.1))
noncomputable def glazierlaw22_FragsKinds_i15_l2 (fl:Nat):Nat -> Int -> Bool -> Int -> Int -> Int -> Int -> Int -> Int -> (List T2) -> T6 -> (List T3) -> (List T4) -> Int -> Int -> Int -> Int -> Int -> Int -> (List T2) -> T6 -> Int -> Int -> Int -> Int -> Int -> Int -> (List T2) -> T6 -> (List T3) -> (List T4) -> Option (Bool × Int × Int × Int × Int × Int × Int × (List T2) × T6 × (List T3) × (List T4) × Int × Int × Int × Int × Int × Int × (List T2) × T6 × Int × Int × Int × Int × Int × Int × (List T2) × T6 × (List T3) × (List T4) × Unit)
 | 0,_,_,_,_,_,_,_,_,_,_,_,_,_,_,_,_,_,_,_,_,_,_,_,_,_,_,_,_,_,_=>none
 | n + 1,x0,x1,x2,x3,x4,x5,x6,x7,x8,x9,x10,x11,x12,x13,x14,x15,x16,x17,x18,x19,x20,x21,x22,x23,x24,x25,x26,x27,x28,x29=>
 bnd (F.len x9) fun v30=>
 bnd (F.lt x0 v30) fun v31=>
 bite v31 (
 bnd (F.lt x0 2) fun v32=>
 bite v32 (
 obind (F.get x9 x0) fun q33=>
 obind (glazierref11_Fit fl q33) fun q34=>
 bgd (F.appOk 40 x19 [q34]) (
 bnd (F.app x19 [q34]) fun v35=>
 bnd (F.add .i64 x0 1) fun v36=>
 glazierlaw22_FragsKinds_i15_l2 fl n v36 x1 x2 x3 x4 x5 x6 x7 x8 x9 x10 x11 x12 x13 x14 x15 x16 x17 x18 v35 x20 x21 x22 x23 x24 x25 x26 x27 x28 x29)) (
 some (x1,(x2,(x3,(x4,(x5,(x6,(x7,(x8,(x9,(x10,(x11,(x12,(x13,(x14,(x15,(x16,(x17,(x18,(x19,(x20,(x21,(x22,(x23,(x24,(x25,(x26,(x27,(x28,(x29,()))))))))))))))))))))))))))))))) (
 some (x1,(x2,(x3,(x4,(x5,(x6,(x7,(x8,(x9,(x10,(x11,(x12,(x13,(x14,(x15,(x16,(x17,(x18,(x19,(x20,(x21,(x22,(x23,(x24,(x25,(x26,(x27,(x28,(x29,()))))))))))))))))))))))))))))))
noncomputable def glazierref12_mod (x0 x1:Int):Option (Int):=
 bgd (F.nonzero x1) (
 bnd (F.rem x0 x1) fun v2=>
 bnd (F.lt v2 0) fun v3=>
 bite v3 (
 bnd (F.add .i64 v2 x1) fun v4=>
 some v4) (
 some v2))
noncomputable def glazierref12_fit (x0:Int × Int × Int × Int × Int) (x1 x2:Int) (x3:Bool):Option (Int × Int × Int × Int × Int):=
 bnd (F.rem x0.1 15) fun v4=>
 bite x3 (
 bnd (F.ge v4 13) fun v5=>
 bite v5 (
 bnd (F.rem x0.2.1 8) fun v6=>
 bnd (F.rem x0.2.2.1 8) fun v7=>
 bnd (F.rem x0.2.2.2.1 8) fun v8=>
 some (2,(v6,(v7,(v8,0))))) (
 bnd (F.rem x0.2.1 8) fun v9=>
 bnd (F.rem x0.2.2.1 8) fun v10=>
 bnd (F.rem x0.2.2.2.1 8) fun v11=>
 bnd (F.eq v4 0) fun v12=>
 bite v12 (
 obind (glazierref12_mod x0.2.2.2.2 4294967296) fun q13=>
 bnd (F.sub .i64 q13 2147483648) fun v14=>
 some (v4,(v9,(0,(0,v14))))) (
 bnd (F.eq v4 1) fun v15=>
 bite v15 (
 some (v4,(v9,(v10,(0,0))))) (
 bnd (F.eq v4 9) fun v16=>
 bite v16 (
 bite v16 (
 obind (glazierref12_mod x0.2.2.2.2 32) fun q17=>
 some (v4,(v9,(v10,(0,q17))))) (
 bnd (F.eq v4 12) fun v18=>
 bite v18 (
 bnd (F.sub .i64 x2 x1) fun v19=>
 obind (glazierref12_mod x0.2.2.2.2 v19) fun q20=>
 some (v4,(0,(v10,(0,q20))))) (
 bnd (F.eq v4 13) fun v21=>
 bite v21 (
 bite v21 (
 bnd (F.rem x0.2.1 5) fun v22=>
 some (v4,(v22,(v10,(v11,0))))) (
 some (v4,(v9,(v10,(v11,0)))))) (
 bnd (F.eq v4 14) fun v23=>
 bite v23 (
 bnd (F.rem x0.2.1 5) fun v24=>
 some (v4,(v24,(v10,(v11,0))))) (
 some (v4,(v9,(v10,(v11,0))))))))) (
 bnd (F.eq v4 10) fun v25=>
 bite v25 (
 obind (glazierref12_mod x0.2.2.2.2 32) fun q26=>
 some (v4,(v9,(v10,(0,q26))))) (
 bnd (F.eq v4 12) fun v27=>
 bite v27 (
 bnd (F.sub .i64 x2 x1) fun v28=>
 obind (glazierref12_mod x0.2.2.2.2 v28) fun q29=>
 some (v4,(0,(v10,(0,q29))))) (
 bnd (F.eq v4 13) fun v30=>
 bite v30 (
 bite v30 (
 bnd (F.rem x0.2.1 5) fun v31=>
 some (v4,(v31,(v10,(v11,0))))) (
 some (v4,(v9,(v10,(v11,0)))))) (
 bnd (F.eq v4 14) fun v32=>
 bite v32 (
 bnd (F.rem x0.2.1 5) fun v33=>
 some (v4,(v33,(v10,(v11,0))))) (
 some (v4,(v9,(v10,(v11,0))))))))))))) (
 bnd (F.rem x0.2.1 8) fun v34=>
 bnd (F.rem x0.2.2.1 8) fun v35=>
 bnd (F.rem x0.2.2.2.1 8) fun v36=>
 bnd (F.eq v4 0) fun v37=>
 bite v37 (
 obind (glazierref12_mod x0.2.2.2.2 4294967296) fun q38=>
 bnd (F.sub .i64 q38 2147483648) fun v39=>
 some (v4,(v34,(0,(0,v39))))) (
 bnd (F.eq v4 1) fun v40=>
 bite v40 (
 some (v4,(v34,(v35,(0,0))))) (
 bnd (F.eq v4 9) fun v41=>
 bite v41 (
 bite v41 (
 obind (glazierref12_mod x0.2.2.2.2 32) fun q42=>
 some (v4,(v34,(v35,(0,q42))))) (
 bnd (F.eq v4 12) fun v43=>
 bite v43 (
 bnd (F.sub .i64 x2 x1) fun v44=>
 obind (glazierref12_mod x0.2.2.2.2 v44) fun q45=>
 some (v4,(0,(v35,(0,q45))))) (
 bnd (F.eq v4 13) fun v46=>
 bite v46 (
 bite v46 (
 bnd (F.rem x0.2.1 5) fun v47=>
 some (v4,(v47,(v35,(v36,0))))) (
 some (v4,(v34,(v35,(v36,0)))))) (
 bnd (F.eq v4 14) fun v48=>
 bite v48 (
 bnd (F.rem x0.2.1 5) fun v49=>
 some (v4,(v49,(v35,(v36,0))))) (
 some (v4,(v34,(v35,(v36,0))))))))) (
 bnd (F.eq v4 10) fun v50=>
 bite v50 (
 obind (glazierref12_mod x0.2.2.2.2 32) fun q51=>
 some (v4,(v34,(v35,(0,q51))))) (
 bnd (F.eq v4 12) fun v52=>
 bite v52 (
 bnd (F.sub .i64 x2 x1) fun v53=>
 obind (glazierref12_mod x0.2.2.2.2 v53) fun q54=>
 some (v4,(0,(v35,(0,q54))))) (
 bnd (F.eq v4 13) fun v55=>
 bite v55 (
 bite v55 (
 bnd (F.rem x0.2.1 5) fun v56=>
 some (v4,(v56,(v35,(v36,0))))) (
 some (v4,(v34,(v35,(v36,0)))))) (
 bnd (F.eq v4 14) fun v57=>
 bite v57 (
 bnd (F.rem x0.2.1 5) fun v58=>
 some (v4,(v58,(v35,(v36,0))))) (
 some (v4,(v34,(v35,(v36,0))))))))))))
noncomputable def glazierref12_Fit_l1 (fl:Nat):Nat -> T3 -> Bool -> Int -> T3 -> Int -> Option (T3 × Unit)
 | 0,_,_,_,_,_=>none
 | n + 1,x0,x1,x2,x3,x4=>
 bnd (F.lt x4 x2) fun v5=>
 bite v5 (
 obind (F.get x0 x4) fun q6=>
 obind (glazierref12_fit q6 x4 x2 x1) fun q7=>
 bgd (F.appOk 16 x3 [q7]) (
 bnd (F.app x3 [q7]) fun v8=>
 bnd (F.add .i64 x4 1) fun v9=>
 glazierref12_Fit_l1 fl n x0 x1 x2 v8 v9)) (
 some (x3,()))
noncomputable def glazierref12_Fit (fl:Nat) (x0:T3) (x1:Bool):Option T3:=
 bnd (F.len x0) fun v2=>
 bnd (F.eq v2 0) fun v3=>
 bite v3 (
 some [(1,(0,(0,(0,0))))]) (
 bnd (F.len x0) fun v4=>
 bnd (F.min v4 32) fun v5=>
 obind (glazierref12_Fit_l1 fl fl x0 x1 v5 [] 0) fun q6=>
 some q6.1)
noncomputable def glazierlaw22_FragsKinds_i15_l3 (fl:Nat):Nat -> Int -> Bool -> Int -> Int -> Int -> Int -> Int -> Int -> (List T2) -> T6 -> (List T3) -> (List T4) -> Int -> Int -> Int -> Int -> Int -> Int -> (List T2) -> T6 -> (List T3) -> Int -> Int -> Int -> Int -> Int -> Int -> (List T2) -> T6 -> (List T3) -> (List T4) -> Option (Bool × Int × Int × Int × Int × Int × Int × (List T2) × T6 × (List T3) × (List T4) × Int × Int × Int × Int × Int × Int × (List T2) × T6 × (List T3) × Int × Int × Int × Int × Int × Int × (List T2) × T6 × (List T3) × (List T4) × Unit)
 | 0,_,_,_,_,_,_,_,_,_,_,_,_,_,_,_,_,_,_,_,_,_,_,_,_,_,_,_,_,_,_,_=>none
 | n + 1,x0,x1,x2,x3,x4,x5,x6,x7,x8,x9,x10,x11,x12,x13,x14,x15,x16,x17,x18,x19,x20,x21,x22,x23,x24,x25,x26,x27,x28,x29,x30=>
 bnd (F.len x10) fun v31=>
 bnd (F.lt x0 v31) fun v32=>
 bite v32 (
 bnd (F.lt x0 3) fun v33=>
 bite v33 (
 obind (F.get x10 x0) fun q34=>
 bnd (F.len x19) fun v35=>
 bnd (F.eq v35 0) fun v36=>
 obind (glazierref12_Fit fl q34 v36) fun q37=>
 bgd (F.appOk 24 x20 [q37]) (
 bnd (F.app x20 [q37]) fun v38=>
 bnd (F.add .i64 x0 1) fun v39=>
 glazierlaw22_FragsKinds_i15_l3 fl n v39 x1 x2 x3 x4 x5 x6 x7 x8 x9 x10 x11 x12 x13 x14 x15 x16 x17 x18 x19 v38 x21 x22 x23 x24 x25 x26 x27 x28 x29 x30)) (
 some (x1,(x2,(x3,(x4,(x5,(x6,(x7,(x8,(x9,(x10,(x11,(x12,(x13,(x14,(x15,(x16,(x17,(x18,(x19,(x20,(x21,(x22,(x23,(x24,(x25,(x26,(x27,(x28,(x29,(x30,())))))))))))))))))))))))))))))))) (
 some (x1,(x2,(x3,(x4,(x5,(x6,(x7,(x8,(x9,(x10,(x11,(x12,(x13,(x14,(x15,(x16,(x17,(x18,(x19,(x20,(x21,(x22,(x23,(x24,(x25,(x26,(x27,(x28,(x29,(x30,())))))))))))))))))))))))))))))))
noncomputable def glazierlaw22_FragsKinds_i15_l4 (fl:Nat):Nat -> Int -> Int -> Bool -> Int -> Int -> Int -> Int -> Int -> Int -> (List T2) -> T6 -> (List T3) -> (List T4) -> Int -> Int -> Int -> Int -> Int -> Int -> (List T2) -> T6 -> (List T3) -> Int -> Int -> Int -> Bool -> (List T1) -> Int -> Int -> Int -> Bool -> (List T1) -> Int -> Int -> Int -> Int -> Int -> Int -> (List T2) -> T6 -> (List T3) -> (List T4) -> Option (Int × Bool × Int × Int × Int × Int × Int × Int × (List T2) × T6 × (List T3) × (List T4) × Int × Int × Int × Int × Int × Int × (List T2) × T6 × (List T3) × Int × Int × Int × Bool × (List T1) × Int × Int × Int × Int × Int × Int × (List T2) × T6 × (List T3) × (List T4) × Unit)
 | 0,_,_,_,_,_,_,_,_,_,_,_,_,_,_,_,_,_,_,_,_,_,_,_,_,_,_,_,_,_,_,_,_,_,_,_,_,_,_,_,_,_,_=>none
 | n + 1,x0,x1,x2,x3,x4,x5,x6,x7,x8,x9,x10,x11,x12,x13,x14,x15,x16,x17,x18,x19,x20,x21,x22,x23,x24,x25,x26,x27,x28,x29,x30,x31,x32,x33,x34,x35,x36,x37,x38,x39,x40,x41=>
 bnd (F.len x26) fun v42=>
 bnd (F.lt x1 v42) fun v43=>
 bite v43 (
 bnd (F.lt x1 4) fun v44=>
 bite v44 (
 obind (F.get x26 x1) fun q45=>
 bnd (F.len x19) fun v46=>
 obind (glazierref14_mod q45.2.1 v46) fun q47=>
 bnd (F.len x19) fun v48=>
 obind (glazierref14_mod q45.2.2.1 v48) fun q49=>
 bnd (F.len x19) fun v50=>
 obind (glazierref14_mod q45.2.2.2 v50) fun q51=>
 obind (glazierref14_mod q45.1 100) fun q52=>
 bnd (F.mul .i64 100 q52) fun v53=>
 bnd (F.add .i64 v53 x1) fun v54=>
 bgd (F.appOk 32 x31 [(v54,(q47,(q49,q51)))]) (
 bnd (F.app x31 [(v54,(q47,(q49,q51)))]) fun v55=>
 bnd (F.add .i64 x1 1) fun v56=>
 glazierlaw22_FragsKinds_i15_l4 fl n x0 v56 x2 x3 x4 x5 x6 x7 x8 x9 x10 x11 x12 x13 x14 x15 x16 x17 x18 x19 x20 x21 x22 x23 x24 x25 x26 x27 x28 x29 x30 v55 x32 x33 x34 x35 x36 x37 x38 x39 x40 x41)) (
 some (x0,(x2,(x3,(x4,(x5,(x6,(x7,(x8,(x9,(x10,(x11,(x12,(x13,(x14,(x15,(x16,(x17,(x18,(x19,(x20,(x21,(x27,(x28,(x29,(x30,(x31,(x32,(x33,(x34,(x35,(x36,(x37,(x38,(x39,(x40,(x41,())))))))))))))))))))))))))))))))))))))) (
 some (x0,(x2,(x3,(x4,(x5,(x6,(x7,(x8,(x9,(x10,(x11,(x12,(x13,(x14,(x15,(x16,(x17,(x18,(x19,(x20,(x21,(x27,(x28,(x29,(x30,(x31,(x32,(x33,(x34,(x35,(x36,(x37,(x38,(x39,(x40,(x41,())))))))))))))))))))))))))))))))))))))
noncomputable def glazierlaw22_FragsKinds_i15_l5 (fl:Nat):Nat -> Int -> Int -> Bool -> Int -> Int -> Int -> Int -> Int -> Int -> (List T2) -> T6 -> (List T3) -> (List T4) -> Int -> Int -> Int -> Int -> Int -> Int -> (List T2) -> T6 -> (List T3) -> (List T4) -> Int -> Int -> Int -> Bool -> (List T1) -> Int -> Int -> Int -> Bool -> (List T1) -> Int -> Int -> Int -> Int -> Int -> Int -> (List T2) -> T6 -> (List T3) -> (List T4) -> Option (Int × Bool × Int × Int × Int × Int × Int × Int × (List T2) × T6 × (List T3) × (List T4) × Int × Int × Int × Int × Int × Int × (List T2) × T6 × (List T3) × (List T4) × Int × Int × Int × Bool × (List T1) × Int × Int × Int × Int × Int × Int × (List T2) × T6 × (List T3) × (List T4) × Unit)
 | 0,_,_,_,_,_,_,_,_,_,_,_,_,_,_,_,_,_,_,_,_,_,_,_,_,_,_,_,_,_,_,_,_,_,_,_,_,_,_,_,_,_,_,_=>none
 | n + 1,x0,x1,x2,x3,x4,x5,x6,x7,x8,x9,x10,x11,x12,x13,x14,x15,x16,x17,x18,x19,x20,x21,x22,x23,x24,x25,x26,x27,x28,x29,x30,x31,x32,x33,x34,x35,x36,x37,x38,x39,x40,x41,x42=>
 bnd (F.len x27) fun v43=>
 bnd (F.lt x1 v43) fun v44=>
 bite v44 (
 bnd (F.lt x1 4) fun v45=>
 bite v45 (
 obind (F.get x27 x1) fun q46=>
 bnd (F.len x19) fun v47=>
 obind (glazierref14_mod q46.2.1 v47) fun q48=>
 bnd (F.len x19) fun v49=>
 obind (glazierref14_mod q46.2.2.1 v49) fun q50=>
 bnd (F.len x19) fun v51=>
 obind (glazierref14_mod q46.2.2.2 v51) fun q52=>
 obind (glazierref14_mod q46.1 100) fun q53=>
 bnd (F.mul .i64 100 q53) fun v54=>
 bnd (F.add .i64 v54 x1) fun v55=>
 bgd (F.appOk 32 x32 [(v55,(q48,(q50,q52)))]) (
 bnd (F.app x32 [(v55,(q48,(q50,q52)))]) fun v56=>
 bnd (F.add .i64 x1 1) fun v57=>
 glazierlaw22_FragsKinds_i15_l5 fl n x0 v57 x2 x3 x4 x5 x6 x7 x8 x9 x10 x11 x12 x13 x14 x15 x16 x17 x18 x19 x20 x21 x22 x23 x24 x25 x26 x27 x28 x29 x30 x31 v56 x33 x34 x35 x36 x37 x38 x39 x40 x41 x42)) (
 some (x0,(x2,(x3,(x4,(x5,(x6,(x7,(x8,(x9,(x10,(x11,(x12,(x13,(x14,(x15,(x16,(x17,(x18,(x19,(x20,(x21,(x22,(x28,(x29,(x30,(x31,(x32,(x33,(x34,(x35,(x36,(x37,(x38,(x39,(x40,(x41,(x42,()))))))))))))))))))))))))))))))))))))))) (
 some (x0,(x2,(x3,(x4,(x5,(x6,(x7,(x8,(x9,(x10,(x11,(x12,(x13,(x14,(x15,(x16,(x17,(x18,(x19,(x20,(x21,(x22,(x28,(x29,(x30,(x31,(x32,(x33,(x34,(x35,(x36,(x37,(x38,(x39,(x40,(x41,(x42,()))))))))))))))))))))))))))))))))))))))
noncomputable def glazierlaw22_FragsKinds_i15_l6 (fl:Nat):Nat -> Int -> Bool -> Int -> Int -> Int -> Int -> Int -> Int -> (List T2) -> T6 -> (List T3) -> (List T4) -> Int -> Int -> Int -> Int -> Int -> Int -> (List T2) -> T6 -> (List T3) -> (List T4) -> Int -> Int -> Int -> Int -> Int -> Int -> (List T2) -> T6 -> (List T3) -> (List T4) -> Option (Bool × Int × Int × Int × Int × Int × Int × (List T2) × T6 × (List T3) × (List T4) × Int × Int × Int × Int × Int × Int × (List T2) × T6 × (List T3) × (List T4) × Unit)
 | 0,_,_,_,_,_,_,_,_,_,_,_,_,_,_,_,_,_,_,_,_,_,_,_,_,_,_,_,_,_,_,_,_=>none
 | n + 1,x0,x1,x2,x3,x4,x5,x6,x7,x8,x9,x10,x11,x12,x13,x14,x15,x16,x17,x18,x19,x20,x21,x22,x23,x24,x25,x26,x27,x28,x29,x30,x31=>
 bnd (F.len x11) fun v32=>
 bnd (F.lt x0 v32) fun v33=>
 bite v33 (
 bnd (F.lt x0 4) fun v34=>
 bite v34 (
 obind (F.get x11 x0) fun q35=>
 obind (glazierref14_mod q35.1 100) fun q36=>
 bnd (F.mul .i64 100 q36) fun v37=>
 bnd (F.add .i64 v37 x0) fun v38=>
 bnd (F.len x20) fun v39=>
 obind (glazierref14_mod q35.2.1 v39) fun q40=>
 bnd (F.len x19) fun v41=>
 bnd (F.gt v41 0) fun v42=>
 bite v42 (
 bnd (F.len x19) fun v43=>
 obind (glazierref14_mod q35.2.2.1 v43) fun q44=>
 obind (glazierlaw22_FragsKinds_i15_l5 fl fl x0 0 x1 x2 x3 x4 x5 x6 x7 x8 x9 x10 x11 x12 x13 x14 x15 x16 x17 x18 x19 x20 x21 q35.1 q35.2.1 q35.2.2.1 q35.2.2.2.1 q35.2.2.2.2 v38 q40 q44 q35.2.2.2.1 [] x22 x23 x24 x25 x26 x27 x28 x29 x30 x31) fun q45=>
 bgd (F.appOk 56 q45.2.2.2.2.2.2.2.2.2.2.2.2.2.2.2.2.2.2.2.2.2.1 [(q45.2.2.2.2.2.2.2.2.2.2.2.2.2.2.2.2.2.2.2.2.2.2.1,(q45.2.2.2.2.2.2.2.2.2.2.2.2.2.2.2.2.2.2.2.2.2.2.2.1,(q45.2.2.2.2.2.2.2.2.2.2.2.2.2.2.2.2.2.2.2.2.2.2.2.2.1,(q45.2.2.2.2.2.2.2.2.2.2.2.2.2.2.2.2.2.2.2.2.2.2.2.2.2.1,q45.2.2.2.2.2.2.2.2.2.2.2.2.2.2.2.2.2.2.2.2.2.2.2.2.2.2.1))))]) (
 bnd (F.app q45.2.2.2.2.2.2.2.2.2.2.2.2.2.2.2.2.2.2.2.2.2.1 [(q45.2.2.2.2.2.2.2.2.2.2.2.2.2.2.2.2.2.2.2.2.2.2.1,(q45.2.2.2.2.2.2.2.2.2.2.2.2.2.2.2.2.2.2.2.2.2.2.2.1,(q45.2.2.2.2.2.2.2.2.2.2.2.2.2.2.2.2.2.2.2.2.2.2.2.2.1,(q45.2.2.2.2.2.2.2.2.2.2.2.2.2.2.2.2.2.2.2.2.2.2.2.2.2.1,q45.2.2.2.2.2.2.2.2.2.2.2.2.2.2.2.2.2.2.2.2.2.2.2.2.2.2.1))))]) fun v46=>
 bnd (F.add .i64 q45.1 1) fun v47=>
 glazierlaw22_FragsKinds_i15_l6 fl n v47 q45.2.1 q45.2.2.1 q45.2.2.2.1 q45.2.2.2.2.1 q45.2.2.2.2.2.1 q45.2.2.2.2.2.2.1 q45.2.2.2.2.2.2.2.1 q45.2.2.2.2.2.2.2.2.1 q45.2.2.2.2.2.2.2.2.2.1 q45.2.2.2.2.2.2.2.2.2.2.1 q45.2.2.2.2.2.2.2.2.2.2.2.1 q45.2.2.2.2.2.2.2.2.2.2.2.2.1 q45.2.2.2.2.2.2.2.2.2.2.2.2.2.1 q45.2.2.2.2.2.2.2.2.2.2.2.2.2.2.1 q45.2.2.2.2.2.2.2.2.2.2.2.2.2.2.2.1 q45.2.2.2.2.2.2.2.2.2.2.2.2.2.2.2.2.1 q45.2.2.2.2.2.2.2.2.2.2.2.2.2.2.2.2.2.1 q45.2.2.2.2.2.2.2.2.2.2.2.2.2.2.2.2.2.2.1 q45.2.2.2.2.2.2.2.2.2.2.2.2.2.2.2.2.2.2.2.1 q45.2.2.2.2.2.2.2.2.2.2.2.2.2.2.2.2.2.2.2.2.1 v46 q45.2.2.2.2.2.2.2.2.2.2.2.2.2.2.2.2.2.2.2.2.2.2.2.2.2.2.2.1 q45.2.2.2.2.2.2.2.2.2.2.2.2.2.2.2.2.2.2.2.2.2.2.2.2.2.2.2.2.1 q45.2.2.2.2.2.2.2.2.2.2.2.2.2.2.2.2.2.2.2.2.2.2.2.2.2.2.2.2.2.1 q45.2.2.2.2.2.2.2.2.2.2.2.2.2.2.2.2.2.2.2.2.2.2.2.2.2.2.2.2.2.2.1 q45.2.2.2.2.2.2.2.2.2.2.2.2.2.2.2.2.2.2.2.2.2.2.2.2.2.2.2.2.2.2.2.1 q45.2.2.2.2.2.2.2.2.2.2.2.2.2.2.2.2.2.2.2.2.2.2.2.2.2.2.2.2.2.2.2.2.1 q45.2.2.2.2.2.2.2.2.2.2.2.2.2.2.2.2.2.2.2.2.2.2.2.2.2.2.2.2.2.2.2.2.2.1 q45.2.2.2.2.2.2.2.2.2.2.2.2.2.2.2.2.2.2.2.2.2.2.2.2.2.2.2.2.2.2.2.2.2.2.1 q45.2.2.2.2.2.2.2.2.2.2.2.2.2.2.2.2.2.2.2.2.2.2.2.2.2.2.2.2.2.2.2.2.2.2.2.1 q45.2.2.2.2.2.2.2.2.2.2.2.2.2.2.2.2.2.2.2.2.2.2.2.2.2.2.2.2.2.2.2.2.2.2.2.2.1)) (
 obind (glazierlaw22_FragsKinds_i15_l5 fl fl x0 0 x1 x2 x3 x4 x5 x6 x7 x8 x9 x10 x11 x12 x13 x14 x15 x16 x17 x18 x19 x20 x21 q35.1 q35.2.1 q35.2.2.1 q35.2.2.2.1 q35.2.2.2.2 v38 q40 (-1) q35.2.2.2.1 [] x22 x23 x24 x25 x26 x27 x28 x29 x30 x31) fun q48=>
 bgd (F.appOk 56 q48.2.2.2.2.2.2.2.2.2.2.2.2.2.2.2.2.2.2.2.2.2.1 [(q48.2.2.2.2.2.2.2.2.2.2.2.2.2.2.2.2.2.2.2.2.2.2.1,(q48.2.2.2.2.2.2.2.2.2.2.2.2.2.2.2.2.2.2.2.2.2.2.2.1,(q48.2.2.2.2.2.2.2.2.2.2.2.2.2.2.2.2.2.2.2.2.2.2.2.2.1,(q48.2.2.2.2.2.2.2.2.2.2.2.2.2.2.2.2.2.2.2.2.2.2.2.2.2.1,q48.2.2.2.2.2.2.2.2.2.2.2.2.2.2.2.2.2.2.2.2.2.2.2.2.2.2.1))))]) (
 bnd (F.app q48.2.2.2.2.2.2.2.2.2.2.2.2.2.2.2.2.2.2.2.2.2.1 [(q48.2.2.2.2.2.2.2.2.2.2.2.2.2.2.2.2.2.2.2.2.2.2.1,(q48.2.2.2.2.2.2.2.2.2.2.2.2.2.2.2.2.2.2.2.2.2.2.2.1,(q48.2.2.2.2.2.2.2.2.2.2.2.2.2.2.2.2.2.2.2.2.2.2.2.2.1,(q48.2.2.2.2.2.2.2.2.2.2.2.2.2.2.2.2.2.2.2.2.2.2.2.2.2.1,q48.2.2.2.2.2.2.2.2.2.2.2.2.2.2.2.2.2.2.2.2.2.2.2.2.2.2.1))))]) fun v49=>
 bnd (F.add .i64 q48.1 1) fun v50=>
 glazierlaw22_FragsKinds_i15_l6 fl n v50 q48.2.1 q48.2.2.1 q48.2.2.2.1 q48.2.2.2.2.1 q48.2.2.2.2.2.1 q48.2.2.2.2.2.2.1 q48.2.2.2.2.2.2.2.1 q48.2.2.2.2.2.2.2.2.1 q48.2.2.2.2.2.2.2.2.2.1 q48.2.2.2.2.2.2.2.2.2.2.1 q48.2.2.2.2.2.2.2.2.2.2.2.1 q48.2.2.2.2.2.2.2.2.2.2.2.2.1 q48.2.2.2.2.2.2.2.2.2.2.2.2.2.1 q48.2.2.2.2.2.2.2.2.2.2.2.2.2.2.1 q48.2.2.2.2.2.2.2.2.2.2.2.2.2.2.2.1 q48.2.2.2.2.2.2.2.2.2.2.2.2.2.2.2.2.1 q48.2.2.2.2.2.2.2.2.2.2.2.2.2.2.2.2.2.1 q48.2.2.2.2.2.2.2.2.2.2.2.2.2.2.2.2.2.2.1 q48.2.2.2.2.2.2.2.2.2.2.2.2.2.2.2.2.2.2.2.1 q48.2.2.2.2.2.2.2.2.2.2.2.2.2.2.2.2.2.2.2.2.1 v49 q48.2.2.2.2.2.2.2.2.2.2.2.2.2.2.2.2.2.2.2.2.2.2.2.2.2.2.2.1 q48.2.2.2.2.2.2.2.2.2.2.2.2.2.2.2.2.2.2.2.2.2.2.2.2.2.2.2.2.1 q48.2.2.2.2.2.2.2.2.2.2.2.2.2.2.2.2.2.2.2.2.2.2.2.2.2.2.2.2.2.1 q48.2.2.2.2.2.2.2.2.2.2.2.2.2.2.2.2.2.2.2.2.2.2.2.2.2.2.2.2.2.2.1 q48.2.2.2.2.2.2.2.2.2.2.2.2.2.2.2.2.2.2.2.2.2.2.2.2.2.2.2.2.2.2.2.1 q48.2.2.2.2.2.2.2.2.2.2.2.2.2.2.2.2.2.2.2.2.2.2.2.2.2.2.2.2.2.2.2.2.1 q48.2.2.2.2.2.2.2.2.2.2.2.2.2.2.2.2.2.2.2.2.2.2.2.2.2.2.2.2.2.2.2.2.2.1 q48.2.2.2.2.2.2.2.2.2.2.2.2.2.2.2.2.2.2.2.2.2.2.2.2.2.2.2.2.2.2.2.2.2.2.1 q48.2.2.2.2.2.2.2.2.2.2.2.2.2.2.2.2.2.2.2.2.2.2.2.2.2.2.2.2.2.2.2.2.2.2.2.1 q48.2.2.2.2.2.2.2.2.2.2.2.2.2.2.2.2.2.2.2.2.2.2.2.2.2.2.2.2.2.2.2.2.2.2.2.2.1))) (
 some (x1,(x12,(x13,(x14,(x15,(x16,(x17,(x18,(x19,(x20,(x21,(x22,(x23,(x24,(x25,(x26,(x27,(x28,(x29,(x30,(x31,()))))))))))))))))))))))) (
 some (x1,(x12,(x13,(x14,(x15,(x16,(x17,(x18,(x19,(x20,(x21,(x22,(x23,(x24,(x25,(x26,(x27,(x28,(x29,(x30,(x31,()))))))))))))))))))))))
noncomputable def glazierlaw22_FragsKinds_l1 (fl:Nat):Nat -> Bool -> Int -> Int -> Int -> Int -> Int -> Int -> Int -> (List T2) -> T6 -> (List T3) -> (List T4) -> Int -> Int -> Int -> Int -> Int -> Int -> (List T2) -> T6 -> (List T3) -> (List T4) -> Option (Bool × Int × Int × Int × Int × Int × Int × (List T2) × T6 × (List T3) × (List T4) × Int × Int × Int × Int × Int × Int × (List T2) × T6 × (List T3) × (List T4) × Unit)
 | 0,_,_,_,_,_,_,_,_,_,_,_,_,_,_,_,_,_,_,_,_,_,_=>none
 | n + 1,x0,x1,x2,x3,x4,x5,x6,x7,x8,x9,x10,x11,x12,x13,x14,x15,x16,x17,x18,x19,x20,x21=>
 bnd (F.len x21) fun v22=>
 bnd (F.lt x1 v22) fun v23=>
 bite v23 (
 obind (F.get x11 x1) fun q24=>
 bnd (F.not q24.2.2.2.1) fun v25=>
 bgd (F.has x21 x1) (
 obind (F.get x21 x1) fun q26=>
 bnd v25 fun v27=>
 bnd (F.add .i64 x1 1) fun v28=>
 glazierlaw22_FragsKinds_l1 fl n x0 v28 x2 x3 x4 x5 x6 x7 x8 x9 x10 x11 x12 x13 x14 x15 x16 x17 x18 x19 x20 (F.put x21 x1 (q26.1,(q26.2.1,(q26.2.2.1,(v25,q26.2.2.2.2))))))) (
 some (x0,(x2,(x3,(x4,(x5,(x6,(x7,(x8,(x9,(x10,(x11,(x12,(x13,(x14,(x15,(x16,(x17,(x18,(x19,(x20,(x21,()))))))))))))))))))))))
noncomputable def glazierref16_Same_l1 (fl:Nat):Nat -> T8 -> T8 -> Int -> Option (((Unit) ⊕ (Unit)))
 | 0,_,_,_=>none
 | n + 1,x0,x1,x2=>
 bnd (F.len x0) fun v3=>
 bnd (F.lt x2 v3) fun v4=>
 bite v4 (
 obind (F.get x0 x2) fun q5=>
 obind (F.get x1 x2) fun q6=>
 bnd (F.not (F.both (F.eq q5.1 q6.1) (F.both (F.eq q5.2.1 q6.2.1) (F.both (F.eq q5.2.2.1 q6.2.2.1) (F.both (F.both (F.eq q5.2.2.2.1.1 q6.2.2.2.1.1) (F.both (F.eq q5.2.2.2.1.2.1 q6.2.2.2.1.2.1) (F.both (F.eq q5.2.2.2.1.2.2.1 q6.2.2.2.1.2.2.1) (F.eq q5.2.2.2.1.2.2.2 q6.2.2.2.1.2.2.2)))) (F.both (F.eq q5.2.2.2.2.1 q6.2.2.2.2.1) (F.both (F.eq q5.2.2.2.2.2.1 q6.2.2.2.2.2.1) (F.both (F.eq q5.2.2.2.2.2.2.1 q6.2.2.2.2.2.2.1) (F.eq q5.2.2.2.2.2.2.2 q6.2.2.2.2.2.2.2))))))))) fun v7=>
 bite v7 (
 some (.inl ())) (
 bnd (F.add .i64 x2 1) fun v8=>
 glazierref16_Same_l1 fl n x0 x1 v8)) (
 some (.inr ()))
noncomputable def glazierref16_Same (fl:Nat) (x0 x1:T8):Option (Bool):=
 bnd (F.len x0) fun v2=>
 bnd (F.len x1) fun v3=>
 bnd (F.ne v2 v3) fun v4=>
 bite v4 (
 some false) (
 obind (glazierref16_Same_l1 fl fl x0 x1 0) fun q5=>
 osum q5 (fun s6=>
 some false) (fun r7=>
 some true))
noncomputable def glazierlaw22_FragsKinds (fl:Nat) (x0:T12):Option (Bool):=
 obind (glazierlaw22_shown fl) fun q1=>
 obind (glazierref14_mod x0.1 12) fun q2=>
 bnd (F.add .i64 1 q2) fun v3=>
 obind (glazierref14_mod x0.2.1 12) fun q4=>
 bnd (F.add .i64 1 q4) fun v5=>
 obind (glazierref02_Pre x0.2.2.1) fun q6=>
 bgd (F.appOk (α:=Unit) 64 [] [((-2),((-2),(0,(1,(200,(0,(0,128)))))))]) (
 bnd (F.app [] [((-2),((-2),(0,(1,(200,(0,(0,128)))))))]) fun v7=>
 obind (glazierlaw22_FragsKinds_i15_l1 fl fl 0 q1 x0.1 x0.2.1 x0.2.2.1.1 x0.2.2.1.2.1 x0.2.2.1.2.2.1 x0.2.2.1.2.2.2 x0.2.2.2.1 x0.2.2.2.2.1 x0.2.2.2.2.2.1 x0.2.2.2.2.2.2 v3 v5 q6.1 q6.2.1 q6.2.2.1 q6.2.2.2 v7 x0.1 x0.2.1 x0.2.2.1.1 x0.2.2.1.2.1 x0.2.2.1.2.2.1 x0.2.2.1.2.2.2 x0.2.2.2.1 x0.2.2.2.2.1 x0.2.2.2.2.2.1 x0.2.2.2.2.2.2) fun q8=>
 obind (glazierlaw22_FragsKinds_i15_l2 fl fl 0 q8.1 q8.2.1 q8.2.2.1 q8.2.2.2.1 q8.2.2.2.2.1 q8.2.2.2.2.2.1 q8.2.2.2.2.2.2.1 q8.2.2.2.2.2.2.2.1 q8.2.2.2.2.2.2.2.2.1 q8.2.2.2.2.2.2.2.2.2.1 q8.2.2.2.2.2.2.2.2.2.2.1 q8.2.2.2.2.2.2.2.2.2.2.2.1 q8.2.2.2.2.2.2.2.2.2.2.2.2.1 q8.2.2.2.2.2.2.2.2.2.2.2.2.2.1 q8.2.2.2.2.2.2.2.2.2.2.2.2.2.2.1 q8.2.2.2.2.2.2.2.2.2.2.2.2.2.2.2.1 q8.2.2.2.2.2.2.2.2.2.2.2.2.2.2.2.2.1 q8.2.2.2.2.2.2.2.2.2.2.2.2.2.2.2.2.2.1 [] q8.2.2.2.2.2.2.2.2.2.2.2.2.2.2.2.2.2.2.1 q8.2.2.2.2.2.2.2.2.2.2.2.2.2.2.2.2.2.2.2.1 q8.2.2.2.2.2.2.2.2.2.2.2.2.2.2.2.2.2.2.2.2.1 q8.2.2.2.2.2.2.2.2.2.2.2.2.2.2.2.2.2.2.2.2.2.1 q8.2.2.2.2.2.2.2.2.2.2.2.2.2.2.2.2.2.2.2.2.2.2.1 q8.2.2.2.2.2.2.2.2.2.2.2.2.2.2.2.2.2.2.2.2.2.2.2.1 q8.2.2.2.2.2.2.2.2.2.2.2.2.2.2.2.2.2.2.2.2.2.2.2.2.1 q8.2.2.2.2.2.2.2.2.2.2.2.2.2.2.2.2.2.2.2.2.2.2.2.2.2.1 q8.2.2.2.2.2.2.2.2.2.2.2.2.2.2.2.2.2.2.2.2.2.2.2.2.2.2.1 q8.2.2.2.2.2.2.2.2.2.2.2.2.2.2.2.2.2.2.2.2.2.2.2.2.2.2.2.1) fun q9=>
 bgd (F.appOk (α:=Unit) 24 [] [[(1,(0,(0,(0,0))))]]) (
 bnd (F.app [] [[(1,(0,(0,(0,0))))]]) fun v10=>
 obind (glazierlaw22_FragsKinds_i15_l3 fl fl 0 q9.1 q9.2.1 q9.2.2.1 q9.2.2.2.1 q9.2.2.2.2.1 q9.2.2.2.2.2.1 q9.2.2.2.2.2.2.1 q9.2.2.2.2.2.2.2.1 q9.2.2.2.2.2.2.2.2.1 q9.2.2.2.2.2.2.2.2.2.1 q9.2.2.2.2.2.2.2.2.2.2.1 q9.2.2.2.2.2.2.2.2.2.2.2.1 q9.2.2.2.2.2.2.2.2.2.2.2.2.1 q9.2.2.2.2.2.2.2.2.2.2.2.2.2.1 q9.2.2.2.2.2.2.2.2.2.2.2.2.2.2.1 q9.2.2.2.2.2.2.2.2.2.2.2.2.2.2.2.1 q9.2.2.2.2.2.2.2.2.2.2.2.2.2.2.2.2.1 q9.2.2.2.2.2.2.2.2.2.2.2.2.2.2.2.2.2.1 q9.2.2.2.2.2.2.2.2.2.2.2.2.2.2.2.2.2.2.1 v10 q9.2.2.2.2.2.2.2.2.2.2.2.2.2.2.2.2.2.2.2.1 q9.2.2.2.2.2.2.2.2.2.2.2.2.2.2.2.2.2.2.2.2.1 q9.2.2.2.2.2.2.2.2.2.2.2.2.2.2.2.2.2.2.2.2.2.1 q9.2.2.2.2.2.2.2.2.2.2.2.2.2.2.2.2.2.2.2.2.2.2.1 q9.2.2.2.2.2.2.2.2.2.2.2.2.2.2.2.2.2.2.2.2.2.2.2.1 q9.2.2.2.2.2.2.2.2.2.2.2.2.2.2.2.2.2.2.2.2.2.2.2.2.1 q9.2.2.2.2.2.2.2.2.2.2.2.2.2.2.2.2.2.2.2.2.2.2.2.2.2.1 q9.2.2.2.2.2.2.2.2.2.2.2.2.2.2.2.2.2.2.2.2.2.2.2.2.2.2.1 q9.2.2.2.2.2.2.2.2.2.2.2.2.2.2.2.2.2.2.2.2.2.2.2.2.2.2.2.1 q9.2.2.2.2.2.2.2.2.2.2.2.2.2.2.2.2.2.2.2.2.2.2.2.2.2.2.2.2.1) fun q11=>
 obind (glazierlaw22_FragsKinds_i15_l6 fl fl 0 q11.1 q11.2.1 q11.2.2.1 q11.2.2.2.1 q11.2.2.2.2.1 q11.2.2.2.2.2.1 q11.2.2.2.2.2.2.1 q11.2.2.2.2.2.2.2.1 q11.2.2.2.2.2.2.2.2.1 q11.2.2.2.2.2.2.2.2.2.1 q11.2.2.2.2.2.2.2.2.2.2.1 q11.2.2.2.2.2.2.2.2.2.2.2.1 q11.2.2.2.2.2.2.2.2.2.2.2.2.1 q11.2.2.2.2.2.2.2.2.2.2.2.2.2.1 q11.2.2.2.2.2.2.2.2.2.2.2.2.2.2.1 q11.2.2.2.2.2.2.2.2.2.2.2.2.2.2.2.1 q11.2.2.2.2.2.2.2.2.2.2.2.2.2.2.2.2.1 q11.2.2.2.2.2.2.2.2.2.2.2.2.2.2.2.2.2.1 q11.2.2.2.2.2.2.2.2.2.2.2.2.2.2.2.2.2.2.1 q11.2.2.2.2.2.2.2.2.2.2.2.2.2.2.2.2.2.2.2.1 [] q11.2.2.2.2.2.2.2.2.2.2.2.2.2.2.2.2.2.2.2.2.1 q11.2.2.2.2.2.2.2.2.2.2.2.2.2.2.2.2.2.2.2.2.2.1 q11.2.2.2.2.2.2.2.2.2.2.2.2.2.2.2.2.2.2.2.2.2.2.1 q11.2.2.2.2.2.2.2.2.2.2.2.2.2.2.2.2.2.2.2.2.2.2.2.1 q11.2.2.2.2.2.2.2.2.2.2.2.2.2.2.2.2.2.2.2.2.2.2.2.2.1 q11.2.2.2.2.2.2.2.2.2.2.2.2.2.2.2.2.2.2.2.2.2.2.2.2.2.1 q11.2.2.2.2.2.2.2.2.2.2.2.2.2.2.2.2.2.2.2.2.2.2.2.2.2.2.1 q11.2.2.2.2.2.2.2.2.2.2.2.2.2.2.2.2.2.2.2.2.2.2.2.2.2.2.2.1 q11.2.2.2.2.2.2.2.2.2.2.2.2.2.2.2.2.2.2.2.2.2.2.2.2.2.2.2.2.1 q11.2.2.2.2.2.2.2.2.2.2.2.2.2.2.2.2.2.2.2.2.2.2.2.2.2.2.2.2.2.1) fun q12=>
 bgd (F.appOk (α:=Unit) 56 [] q12.2.2.2.2.2.2.2.2.2.2.1) (
 bnd (F.app [] q12.2.2.2.2.2.2.2.2.2.2.1) fun v13=>
 obind (glazierlaw22_FragsKinds_l1 fl fl q12.1 0 q12.2.1 q12.2.2.1 q12.2.2.2.1 q12.2.2.2.2.1 q12.2.2.2.2.2.1 q12.2.2.2.2.2.2.1 q12.2.2.2.2.2.2.2.1 q12.2.2.2.2.2.2.2.2.1 q12.2.2.2.2.2.2.2.2.2.1 q12.2.2.2.2.2.2.2.2.2.2.1 q12.2.1 q12.2.2.1 q12.2.2.2.1 q12.2.2.2.2.1 q12.2.2.2.2.2.1 q12.2.2.2.2.2.2.1 q12.2.2.2.2.2.2.2.1 q12.2.2.2.2.2.2.2.2.1 q12.2.2.2.2.2.2.2.2.2.1 v13) fun q14=>
 bnd (F.not q14.1) fun v15=>
 bite v15 (
 some false) (
 obind (glazierlaw22_gone fl ((q14.2.1,(q14.2.2.1,((q14.2.2.2.1,(q14.2.2.2.2.1,(q14.2.2.2.2.2.1,q14.2.2.2.2.2.2.1))),(q14.2.2.2.2.2.2.2.1,(q14.2.2.2.2.2.2.2.2.1,(q14.2.2.2.2.2.2.2.2.2.1,q14.2.2.2.2.2.2.2.2.2.2.1)))))),(0,0)) (0,(0,(q14.2.1,q14.2.2.1))) true 1073741824) fun q16=>
 obind (glazierlaw22_gone fl ((q14.2.2.2.2.2.2.2.2.2.2.2.1,(q14.2.2.2.2.2.2.2.2.2.2.2.2.1,((q14.2.2.2.2.2.2.2.2.2.2.2.2.2.1,(q14.2.2.2.2.2.2.2.2.2.2.2.2.2.2.1,(q14.2.2.2.2.2.2.2.2.2.2.2.2.2.2.2.1,q14.2.2.2.2.2.2.2.2.2.2.2.2.2.2.2.2.1))),(q14.2.2.2.2.2.2.2.2.2.2.2.2.2.2.2.2.2.1,(q14.2.2.2.2.2.2.2.2.2.2.2.2.2.2.2.2.2.2.1,(q14.2.2.2.2.2.2.2.2.2.2.2.2.2.2.2.2.2.2.2.1,q14.2.2.2.2.2.2.2.2.2.2.2.2.2.2.2.2.2.2.2.2.1)))))),(0,0)) (0,(0,(q14.2.1,q14.2.2.1))) false 1073741824) fun q17=>
 obind (glazierlaw22_gone fl q16.2 (0,(0,(q14.2.1,q14.2.2.1))) false 1073741824) fun q18=>
 obind (glazierlaw22_gone fl q17.2 (0,(0,(q14.2.1,q14.2.2.1))) true 1073741824) fun q19=>
 obind (glazierref16_Same fl q16.1.1 q17.1.1) fun q20=>
 obind (glazierref16_Same fl q18.1.1 q19.1.1) fun q21=>
 bite q16.1.2 (
 bite q17.1.2 (
 bite q18.1.2 (
 bite q19.1.2 (
 bite q20 (
 bite q21 (
 obind (frags_Maker__Made (q18.2.1.1,(q18.2.1.2.1,(q18.2.1.2.2.1.1,(q18.2.1.2.2.1.2.1,(q18.2.1.2.2.1.2.2.1,(q18.2.1.2.2.1.2.2.2,(q18.2.1.2.2.2.1,(q18.2.1.2.2.2.2.1,(q18.2.1.2.2.2.2.2.1,(q18.2.1.2.2.2.2.2.2,q18.2.2))))))))))) fun q22=>
 obind (frags_Maker__Made (q19.2.1.1,(q19.2.1.2.1,(q19.2.1.2.2.1.1,(q19.2.1.2.2.1.2.1,(q19.2.1.2.2.1.2.2.1,(q19.2.1.2.2.1.2.2.2,(q19.2.1.2.2.2.1,(q19.2.1.2.2.2.2.1,(q19.2.1.2.2.2.2.2.1,(q19.2.1.2.2.2.2.2.2,q19.2.2))))))))))) fun q23=>
 bnd (F.eq q22 q23) fun v24=>
 bite v24 (
 obind (frags_Maker__Steps (q18.2.1.1,(q18.2.1.2.1,(q18.2.1.2.2.1.1,(q18.2.1.2.2.1.2.1,(q18.2.1.2.2.1.2.2.1,(q18.2.1.2.2.1.2.2.2,(q18.2.1.2.2.2.1,(q18.2.1.2.2.2.2.1,(q18.2.1.2.2.2.2.2.1,(q18.2.1.2.2.2.2.2.2,q18.2.2))))))))))) fun q25=>
 obind (frags_Maker__Steps (q19.2.1.1,(q19.2.1.2.1,(q19.2.1.2.2.1.1,(q19.2.1.2.2.1.2.1,(q19.2.1.2.2.1.2.2.1,(q19.2.1.2.2.1.2.2.2,(q19.2.1.2.2.2.1,(q19.2.1.2.2.2.2.1,(q19.2.1.2.2.2.2.2.1,(q19.2.1.2.2.2.2.2.2,q19.2.2))))))))))) fun q26=>
 bnd (F.eq q25 q26) fun v27=>
 some v27) (
 some false)) (
 some false)) (
 some false)) (
 some false)) (
 some false)) (
 some false)) (
 some false)))))
end Go.Proofs.Ytkacojopcajboaa.G
