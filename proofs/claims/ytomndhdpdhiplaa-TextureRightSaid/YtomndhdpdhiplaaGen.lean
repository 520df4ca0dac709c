/- A part of the proof. -/
import Derived.Test.YtomndhdpdhiplaaMchA
set_option linter.unusedVariables false
set_option maxRecDepth 100000
def Go.Proofs.Ytomndhdpdhiplaa.M.F.lit (l:List Nat):ByteArray:=⟨(l.map UInt8.ofNat).toArray⟩
namespace Go.Proofs.Ytomndhdpdhiplaa.G
open Go Go.Proofs.Ytomndhdpdhiplaa.M
abbrev T1:=Int × Int × Int × Int
noncomputable def fixed_size (x0:Int):Option (Int):=
 bnd (F.neg .i64 x0) fun v1=>
 bnd (F.max x0 v1) fun v2=>
 bnd (F.conv .u64 v2) fun v3=>
 some v3
noncomputable def bits_Mul64 (x0 x1:Int):Option (Int × Int):=
 bnd (F.and .u64 x0 4294967295) fun v2=>
 bnd (F.shr .u64 x0 32) fun v3=>
 bnd (F.and .u64 x1 4294967295) fun v4=>
 bnd (F.shr .u64 x1 32) fun v5=>
 bnd (F.mul .u64 v2 v4) fun v6=>
 bnd (F.mul .u64 v3 v4) fun v7=>
 bnd (F.shr .u64 v6 32) fun v8=>
 bnd (F.add .u64 v7 v8) fun v9=>
 bnd (F.and .u64 v9 4294967295) fun v10=>
 bnd (F.shr .u64 v9 32) fun v11=>
 bnd (F.mul .u64 v2 v5) fun v12=>
 bnd (F.add .u64 v10 v12) fun v13=>
 bnd (F.mul .u64 v3 v5) fun v14=>
 bnd (F.add .u64 v14 v11) fun v15=>
 bnd (F.shr .u64 v13 32) fun v16=>
 bnd (F.add .u64 v15 v16) fun v17=>
 bnd (F.mul .u64 x0 x1) fun v18=>
 some (v17,v18)
noncomputable def bits_LeadingZeros64 (x0:Int):Option (Int):=
 none
noncomputable def bits_Div64_l1 (fl:Nat):Nat -> Int -> Int -> Int -> Int -> Int -> Int -> Int -> Int -> Int -> Option (Int × Int × Int × Int × Int × Int × Int × Int × Unit)
 | 0,_,_,_,_,_,_,_,_,_=>none
 | n + 1,x0,x1,x2,x3,x4,x5,x6,x7,x8=>
 bnd (F.ge x7 4294967296) fun v9=>
 bite v9 (
 bnd (F.sub .u64 x7 1) fun v10=>
 bnd (F.add .u64 x8 x2) fun v11=>
 bnd (F.ge v11 4294967296) fun v12=>
 bite v12 (
 some (x0,(x1,(x2,(x3,(x4,(x5,(x6,(v10,()))))))))) (
 bits_Div64_l1 fl n x0 x1 x2 x3 x4 x5 x6 v10 v11)) (
 bnd (F.mul .u64 x7 x3) fun v13=>
 bnd (F.mul .u64 4294967296 x8) fun v14=>
 bnd (F.add .u64 v14 x5) fun v15=>
 bnd (F.gt v13 v15) fun v16=>
 bite v16 (
 bnd (F.sub .u64 x7 1) fun v17=>
 bnd (F.add .u64 x8 x2) fun v18=>
 bnd (F.ge v18 4294967296) fun v19=>
 bite v19 (
 some (x0,(x1,(x2,(x3,(x4,(x5,(x6,(v17,()))))))))) (
 bits_Div64_l1 fl n x0 x1 x2 x3 x4 x5 x6 v17 v18)) (
 some (x0,(x1,(x2,(x3,(x4,(x5,(x6,(x7,()))))))))))
noncomputable def bits_Div64_l2 (fl:Nat):Nat -> Int -> Int -> Int -> Int -> Int -> Int -> Int -> Int -> Int -> Option (Int × Int × Int × Int × Int × Int × Unit)
 | 0,_,_,_,_,_,_,_,_,_=>none
 | n + 1,x0,x1,x2,x3,x4,x5,x6,x7,x8=>
 bnd (F.ge x8 4294967296) fun v9=>
 bite v9 (
 bnd (F.sub .u64 x8 1) fun v10=>
 bnd (F.add .u64 x6 x2) fun v11=>
 bnd (F.ge v11 4294967296) fun v12=>
 bite v12 (
 some (x0,(x1,(x4,(x5,(x7,(v10,()))))))) (
 bits_Div64_l2 fl n x0 x1 x2 x3 x4 x5 v11 x7 v10)) (
 bnd (F.mul .u64 x8 x3) fun v13=>
 bnd (F.mul .u64 4294967296 x6) fun v14=>
 bnd (F.add .u64 v14 x4) fun v15=>
 bnd (F.gt v13 v15) fun v16=>
 bite v16 (
 bnd (F.sub .u64 x8 1) fun v17=>
 bnd (F.add .u64 x6 x2) fun v18=>
 bnd (F.ge v18 4294967296) fun v19=>
 bite v19 (
 some (x0,(x1,(x4,(x5,(x7,(v17,()))))))) (
 bits_Div64_l2 fl n x0 x1 x2 x3 x4 x5 v18 x7 v17)) (
 some (x0,(x1,(x4,(x5,(x7,(x8,()))))))))
noncomputable def bits_Div64 (fl:Nat) (x0 x1 x2:Int):Option (Int × Int):=
 bnd (F.eq x2 0) fun v3=>
 bite v3 (
 none) (
 bnd (F.le x2 x0) fun v4=>
 bite v4 (
 none) (
 bnd (F.eq x0 0) fun v5=>
 bite v5 (
 bgd (F.nonzero x2) (
 bnd (F.quo .u64 x1 x2) fun v6=>
 bgd (F.nonzero x2) (
 bnd (F.rem x1 x2) fun v7=>
 some (v6,v7)))) (
 obind (bits_LeadingZeros64 x2) fun q8=>
 bnd (F.conv .u64 q8) fun v9=>
 bgd (F.nonneg v9) (
 bnd (F.shl .u64 x2 v9) fun v10=>
 bnd (F.shr .u64 v10 32) fun v11=>
 bnd (F.and .u64 v10 4294967295) fun v12=>
 bgd (F.nonneg v9) (
 bnd (F.shl .u64 x0 v9) fun v13=>
 bnd (F.sub .u64 64 v9) fun v14=>
 bgd (F.nonneg v14) (
 bnd (F.shr .u64 x1 v14) fun v15=>
 bnd (F.or .u64 v13 v15) fun v16=>
 bgd (F.nonneg v9) (
 bnd (F.shl .u64 x1 v9) fun v17=>
 bnd (F.shr .u64 v17 32) fun v18=>
 bnd (F.and .u64 v17 4294967295) fun v19=>
 bgd (F.nonzero v11) (
 bnd (F.quo .u64 v16 v11) fun v20=>
 bnd (F.mul .u64 v20 v11) fun v21=>
 bnd (F.sub .u64 v16 v21) fun v22=>
 obind (bits_Div64_l1 fl fl v10 v9 v11 v12 v16 v18 v19 v20 v22) fun q23=>
 bnd (F.mul .u64 q23.2.2.2.2.1 4294967296) fun v24=>
 bnd (F.add .u64 v24 q23.2.2.2.2.2.1) fun v25=>
 bnd (F.mul .u64 q23.2.2.2.2.2.2.2.1 q23.1) fun v26=>
 bnd (F.sub .u64 v25 v26) fun v27=>
 bgd (F.nonzero q23.2.2.1) (
 bnd (F.quo .u64 v27 q23.2.2.1) fun v28=>
 bnd (F.mul .u64 v28 q23.2.2.1) fun v29=>
 bnd (F.sub .u64 v27 v29) fun v30=>
 obind (bits_Div64_l2 fl fl q23.1 q23.2.1 q23.2.2.1 q23.2.2.2.1 q23.2.2.2.2.2.2.1 q23.2.2.2.2.2.2.2.1 v30 v27 v28) fun q31=>
 bnd (F.mul .u64 q31.2.2.2.1 4294967296) fun v32=>
 bnd (F.add .u64 v32 q31.2.2.2.2.2.1) fun v33=>
 bnd (F.mul .u64 q31.2.2.2.2.1 4294967296) fun v34=>
 bnd (F.add .u64 v34 q31.2.2.1) fun v35=>
 bnd (F.mul .u64 q31.2.2.2.2.2.1 q31.1) fun v36=>
 bnd (F.sub .u64 v35 v36) fun v37=>
 bgd (F.nonneg q31.2.1) (
 bnd (F.shr .u64 v37 q31.2.1) fun v38=>
 some (v33,v38)))))))))))
noncomputable def fixed_checked (x0:Int) (x1:Bool):Option (Int × Int):=
 bnd (F.not x1) fun v2=>
 bite v2 (
 some (0,2)) (
 some (x0,0))
noncomputable def fixed_signed (x0:Int) (x1:Bool):Option (Int × Int):=
 bite x1 (
 bnd (F.neg .u64 x0) fun v2=>
 bnd (F.conv .i64 v2) fun v3=>
 bnd (F.le x0 9223372036854775808) fun v4=>
 obind (fixed_checked v3 v4) fun q5=>
 some q5) (
 bnd (F.conv .i64 x0) fun v6=>
 bnd (F.le x0 9223372036854775807) fun v7=>
 obind (fixed_checked v6 v7) fun q8=>
 some q8)
noncomputable def fixed_MulDiv (fl:Nat) (x0 x1 x2:Int):Option (Int × Int):=
 bnd (F.eq x2 0) fun v3=>
 bite v3 (
 some (0,3)) (
 obind (fixed_size x0) fun q4=>
 obind (fixed_size x1) fun q5=>
 obind (bits_Mul64 q4 q5) fun q6=>
 obind (fixed_size x2) fun q7=>
 bnd (F.ge q6.1 q7) fun v8=>
 bite v8 (
 some (0,2)) (
 obind (bits_Div64 fl q6.1 q6.2 q7) fun q9=>
 bnd (F.lt x0 0) fun v10=>
 bnd (F.lt x1 0) fun v11=>
 bnd (F.bne v10 v11) fun v12=>
 bnd (F.lt x2 0) fun v13=>
 bnd (F.bne v12 v13) fun v14=>
 bite v14 (
 bnd (F.gt q9.2 0) fun v15=>
 bite v15 (
 bnd (F.add .u64 q9.1 1) fun v16=>
 bnd (F.eq v16 0) fun v17=>
 bite v17 (
 some (0,2)) (
 obind (fixed_signed v16 v14) fun q18=>
 some q18)) (
 obind (fixed_signed q9.1 v14) fun q19=>
 some q19)) (
 obind (fixed_signed q9.1 v14) fun q20=>
 some q20)))
noncomputable def fixed_Floor (fl:Nat) (x0 x1:Int):Option (Int × Int):=
 obind (fixed_MulDiv fl x0 1 x1) fun q2=>
 some q2
noncomputable def texture_cut (fl:Nat) (x0:Int):Option (Int × Int):=
 obind (fixed_Floor fl x0 16) fun q1=>
 bnd (F.mul .i64 16 q1.1) fun v2=>
 bnd (F.sub .i64 x0 v2) fun v3=>
 some (q1.1,v3)
noncomputable def texture_sides_l1 (fl:Nat):Nat -> (List (Int)) -> Int -> Int -> Option (((Unit) ⊕ (Unit)))
 | 0,_,_,_=>none
 | n + 1,x0,x1,x2=>
 bnd (F.lt x2 x1) fun v3=>
 bite v3 (
 obind (F.get x0 x2) fun q4=>
 bnd (F.lt q4 1) fun v5=>
 bite v5 (
 some (.inl ())) (
 bnd (F.gt q4 16) fun v6=>
 bite v6 (
 some (.inl ())) (
 bnd (F.add .i64 x2 1) fun v7=>
 texture_sides_l1 fl n x0 x1 v7))) (
 some (.inr ()))
noncomputable def texture_sides (fl:Nat) (x0:List (Int)):Option (Bool):=
 bnd (F.len x0) fun v1=>
 obind (texture_sides_l1 fl fl x0 v1 0) fun q2=>
 osum q2 (fun s3=>
 some false) (fun r4=>
 some true)
noncomputable def texture_Right (fl:Nat) (x0:Int × Int × List T1):Option (Bool):=
 obind (texture_sides fl [x0.1,x0.2.1]) fun q1=>
 bite q1 (
 bnd (F.len x0.2.2) fun v2=>
 bnd (F.mul .i64 x0.1 x0.2.1) fun v3=>
 bnd (F.eq v2 v3) fun v4=>
 some v4) (
 some false)
noncomputable def texture_Texel (fl:Nat) (x0:Int × Int × List T1) (x1 x2:Int):Option T1:=
 obind (texture_Right fl x0) fun q3=>
 bnd (F.not q3) fun v4=>
 bite v4 (
 some (0,(0,(0,0)))) (
 bgd (F.nonzero x0.1) (
 bnd (F.rem x1 x0.1) fun v5=>
 bnd (F.add .i64 v5 x0.1) fun v6=>
 bgd (F.nonzero x0.1) (
 bnd (F.rem v6 x0.1) fun v7=>
 bgd (F.nonzero x0.2.1) (
 bnd (F.rem x2 x0.2.1) fun v8=>
 bnd (F.add .i64 v8 x0.2.1) fun v9=>
 bgd (F.nonzero x0.2.1) (
 bnd (F.rem v9 x0.2.1) fun v10=>
 bnd (F.mul .i64 v10 x0.1) fun v11=>
 bnd (F.add .i64 v11 v7) fun v12=>
 obind (F.get x0.2.2 v12) fun q13=>
 some q13)))))
noncomputable def colour_Mix_1 (x0 x1 x2:Int):Option (Int):=
 bnd (F.sub .i64 256 x2) fun v3=>
 bnd (F.mul .i64 x0 v3) fun v4=>
 bnd (F.mul .i64 x1 x2) fun v5=>
 bnd (F.add .i64 v4 v5) fun v6=>
 bnd (F.add .i64 v6 128) fun v7=>
 bnd (F.quo .i64 v7 256) fun v8=>
 some v8
noncomputable def fixed_Sat (x0:Int):Option (Int):=
 bnd (F.max x0 0) fun v1=>
 bnd (F.min v1 255) fun v2=>
 bnd (F.conv .u8 v2) fun v3=>
 some v3
noncomputable def colour_each_1 (x0 x1 x2:Int):Option (Int):=
 bnd (F.conv .i64 x0) fun v3=>
 bnd (F.conv .i64 x1) fun v4=>
 obind (colour_Mix_1 v3 v4 x2) fun q5=>
 obind (fixed_Sat q5) fun q6=>
 some q6
noncomputable def colour_each (x0 x1:T1) (x2:Int):Option T1:=
 obind (colour_each_1 x0.1 x1.1 x2) fun q3=>
 obind (colour_each_1 x0.2.1 x1.2.1 x2) fun q4=>
 obind (colour_each_1 x0.2.2.1 x1.2.2.1 x2) fun q5=>
 obind (colour_each_1 x0.2.2.2 x1.2.2.2 x2) fun q6=>
 some (q3,(q4,(q5,q6)))
noncomputable def colour_Mix (x0 x1:T1) (x2:Int):Option T1:=
 bnd (F.max x2 0) fun v3=>
 bnd (F.min v3 256) fun v4=>
 obind (colour_each x0 x1 v4) fun q5=>
 some q5
noncomputable def texture_Smooth_1 (fl:Nat) (x0:Int) (x1:Int × Int × List T1) (x2 x3:Int):Option T1:=
 obind (texture_Texel fl x1 x2 x0) fun q4=>
 bnd (F.add .i64 x2 1) fun v5=>
 obind (texture_Texel fl x1 v5 x0) fun q6=>
 bnd (F.mul .i64 16 x3) fun v7=>
 obind (colour_Mix q4 q6 v7) fun q8=>
 some q8
noncomputable def texture_Smooth (fl:Nat) (x0:Int × Int × List T1) (x1 x2:Int):Option T1:=
 bnd (F.sub .i64 x1 8) fun v3=>
 obind (texture_cut fl v3) fun q4=>
 bnd (F.sub .i64 x2 8) fun v5=>
 obind (texture_cut fl v5) fun q6=>
 obind (texture_Smooth_1 fl q6.1 x0 q4.1 q4.2) fun q7=>
 bnd (F.add .i64 q6.1 1) fun v8=>
 obind (texture_Smooth_1 fl v8 x0 q4.1 q4.2) fun q9=>
 bnd (F.mul .i64 16 q6.2) fun v10=>
 obind (colour_Mix q7 q9 v10) fun q11=>
 some q11
noncomputable def glazierlaw11_shown (fl:Nat) :Option (Bool):=
 obind (texture_Smooth fl (2,(1,[(0,(0,(0,0))),(255,(255,(255,255)))])) 16 0) fun q0=>
 bnd (F.both (F.eq q0.1 128) (F.both (F.eq q0.2.1 128) (F.both (F.eq q0.2.2.1 128) (F.eq q0.2.2.2 128)))) fun v1=>
 some v1
noncomputable def glazierlaw11_few (x0:Int × Int × List T1):Option (Int × Int × List T1):=
 bnd (F.len x0.2.2) fun v1=>
 bnd (F.gt v1 300) fun v2=>
 bite v2 (
 bgd (F.cutOk x0.2.2 0 300) (
 bnd (F.cut x0.2.2 0 300) fun v3=>
 some (x0.1,(x0.2.1,v3)))) (
 some x0)
noncomputable def glazierref11_wrap (x0 x1:Int):Option (Int):=
 bgd (F.nonzero x1) (
 bnd (F.rem x0 x1) fun v2=>
 bnd (F.lt v2 0) fun v3=>
 bite v3 (
 bnd (F.add .i64 v2 x1) fun v4=>
 some v4) (
 some v2))
noncomputable def glazierlaw11_TextureRight_i9_l1 (fl:Nat):Nat -> Int -> Int -> Bool -> Int -> Int -> Int -> Bool -> Int -> Int -> (List T1) -> Int -> Int -> (List T1) -> Int -> Int -> Int -> Int -> (List T1) -> Int -> Int -> (List T1) -> Int -> Int -> (List T1) -> Option (Int × Bool × Int × Int × Int × Bool × Int × Int × (List T1) × Int × Int × Int × Int × (List T1) × Int × Int × (List T1) × Int × Int × (List T1) × Unit)
 | 0,_,_,_,_,_,_,_,_,_,_,_,_,_,_,_,_,_,_,_,_,_,_,_,_=>none
 | n + 1,x0,x1,x2,x3,x4,x5,x6,x7,x8,x9,x10,x11,x12,x13,x14,x15,x16,x17,x18,x19,x20,x21,x22,x23=>
 bnd (F.mul .i64 x10 x11) fun v24=>
 bnd (F.lt x0 v24) fun v25=>
 bite v25 (
 bnd (F.mul .i64 x0 16) fun v26=>
 bnd (F.conv .u8 v26) fun v27=>
 bnd (F.conv .u8 x0) fun v28=>
 bnd (F.len x9) fun v29=>
 bnd (F.lt x0 v29) fun v30=>
 bite v30 (
 obind (F.get x9 x0) fun q31=>
 bgd (F.appOk 4 x12 [q31]) (
 bnd (F.app x12 [q31]) fun v32=>
 bnd (F.add .i64 x0 1) fun v33=>
 glazierlaw11_TextureRight_i9_l1 fl n v33 x1 x2 x3 x4 x5 x6 x7 x8 x9 x10 x11 v32 x13 x14 x15 x16 x17 x18 x19 x20 x21 x22 x23)) (
 bgd (F.appOk 4 x12 [(v27,(v28,(7,255)))]) (
 bnd (F.app x12 [(v27,(v28,(7,255)))]) fun v34=>
 bnd (F.add .i64 x0 1) fun v35=>
 glazierlaw11_TextureRight_i9_l1 fl n v35 x1 x2 x3 x4 x5 x6 x7 x8 x9 x10 x11 v34 x13 x14 x15 x16 x17 x18 x19 x20 x21 x22 x23))) (
 some (x1,(x2,(x3,(x4,(x5,(x6,(x10,(x11,(x12,(x13,(x14,(x15,(x16,(x17,(x18,(x19,(x20,(x21,(x22,(x23,())))))))))))))))))))))
noncomputable def glazierref01_Div255 (x0:Int):Option (Int):=
 bnd (F.lt x0 0) fun v1=>
 bite v1 (
 some 0) (
 bnd (F.gt x0 65025) fun v2=>
 bite v2 (
 some 255) (
 bnd (F.mul .i64 2 x0) fun v3=>
 bnd (F.add .i64 v3 255) fun v4=>
 bnd (F.quo .i64 v4 510) fun v5=>
 some v5))
noncomputable def glazierref02_part (x0 x1:Int):Option (Int):=
 bnd (F.conv .i64 x0) fun v2=>
 bnd (F.conv .i64 x1) fun v3=>
 bnd (F.mul .i64 v2 v3) fun v4=>
 obind (glazierref01_Div255 v4) fun q5=>
 bnd (F.conv .u8 q5) fun v6=>
 some v6
noncomputable def glazierref02_Pre (x0:T1):Option T1:=
 obind (glazierref02_part x0.1 x0.2.2.2) fun q1=>
 obind (glazierref02_part x0.2.1 x0.2.2.2) fun q2=>
 obind (glazierref02_part x0.2.2.1 x0.2.2.2) fun q3=>
 some (q1,(q2,(q3,x0.2.2.2)))
noncomputable def glazierlaw11_TextureRight_l1 (fl:Nat):Nat -> Int -> Bool -> Int -> Int -> Int -> Bool -> Int -> Int -> Int -> (List T1) -> Int -> Int -> (List T1) -> Int -> Int -> (List T1) -> Option (Int × Bool × Int × Int × Int × Bool × Int × Int × (List T1) × Int × Int × (List T1) × Int × Int × (List T1) × Unit)
 | 0,_,_,_,_,_,_,_,_,_,_,_,_,_,_,_,_=>none
 | n + 1,x0,x1,x2,x3,x4,x5,x6,x7,x8,x9,x10,x11,x12,x13,x14,x15=>
 bnd (F.len x15) fun v16=>
 bnd (F.lt x6 v16) fun v17=>
 bite v17 (
 obind (F.get x15 x6) fun q18=>
 obind (glazierref02_Pre q18) fun q19=>
 bgd (F.has x15 x6) (
 obind (F.get x15 x6) fun q20=>
 bnd (F.add .i64 x6 1) fun v21=>
 glazierlaw11_TextureRight_l1 fl n x0 x1 x2 x3 x4 x5 v21 x7 x8 x9 x10 x11 x12 x13 x14 (F.put x15 x6 q19))) (
 some (x0,(x1,(x2,(x3,(x4,(x5,(x7,(x8,(x9,(x10,(x11,(x12,(x13,(x14,(x15,()))))))))))))))))
noncomputable def glazierref02_Right (x0:T1):Option (Bool):=
 bnd (F.le x0.1 x0.2.2.2) fun v1=>
 bite v1 (
 bnd (F.le x0.2.1 x0.2.2.2) fun v2=>
 bite v2 (
 bnd (F.le x0.2.2.1 x0.2.2.2) fun v3=>
 some v3) (
 some false)) (
 some false)
noncomputable def glazierlaw11_TextureRight (fl:Nat) (x0:Int × Int) (x1:Int) (x2:Int × Int × List T1):Option (Bool):=
 obind (glazierlaw11_shown fl) fun q3=>
 bnd (F.conv .i64 x0.1) fun v4=>
 bnd (F.rem v4 21) fun v5=>
 bnd (F.conv .i64 x0.2) fun v6=>
 bnd (F.rem v6 21) fun v7=>
 bnd (F.conv .i64 x1) fun v8=>
 bnd (F.rem v8 401) fun v9=>
 bgd (F.fillOk 4 v9) (
 bnd (F.mul .i64 v5 v7) fun v10=>
 bgd (F.fillOk 4 v10) (
 bnd (F.ge v5 1) fun v11=>
 bite v11 (
 bnd (F.le v5 16) fun v12=>
 bite v12 (
 bnd (F.ge v7 1) fun v13=>
 bite v13 (
 bnd (F.le v7 16) fun v14=>
 obind (glazierlaw11_few x2) fun q15=>
 obind (glazierref11_wrap q15.1 16) fun q16=>
 bnd (F.add .i64 1 q16) fun v17=>
 obind (glazierref11_wrap q15.2.1 16) fun q18=>
 bnd (F.add .i64 1 q18) fun v19=>
 obind (glazierlaw11_TextureRight_i9_l1 fl fl 0 x1 q3 v5 v7 v9 v14 q15.1 q15.2.1 q15.2.2 v17 v19 [] x0.1 x0.2 x2.1 x2.2.1 x2.2.2 v5 v7 (F.fill v9 (0,(0,(0,0)))) v5 v7 (F.fill v10 (0,(0,(0,0))))) fun q20=>
 obind (glazierlaw11_TextureRight_l1 fl fl q20.1 q20.2.1 q20.2.2.1 q20.2.2.2.1 q20.2.2.2.2.1 q20.2.2.2.2.2.1 0 q20.2.2.2.2.2.2.2.2.2.2.2.2.2.2.1 q20.2.2.2.2.2.2.2.2.2.2.2.2.2.2.2.1 q20.2.2.2.2.2.2.2.2.2.2.2.2.2.2.2.2.1 q20.2.2.2.2.2.2.2.2.2.2.2.2.2.2.2.2.2.1 q20.2.2.2.2.2.2.2.2.2.2.2.2.2.2.2.2.2.2.1 q20.2.2.2.2.2.2.2.2.2.2.2.2.2.2.2.2.2.2.2.1 q20.2.2.2.2.2.2.1 q20.2.2.2.2.2.2.2.1 q20.2.2.2.2.2.2.2.2.1) fun q21=>
 bnd (F.conv .i64 q21.1) fun v22=>
 bnd (F.mul .i64 5 v22) fun v23=>
 bnd (F.sub .i64 q21.2.2.1 q21.2.2.2.1) fun v24=>
 obind (texture_Smooth fl (q21.2.2.2.2.2.2.2.2.2.2.2.2.1,(q21.2.2.2.2.2.2.2.2.2.2.2.2.2.1,q21.2.2.2.2.2.2.2.2.2.2.2.2.2.2.1)) v23 v24) fun q25=>
 obind (glazierref02_Right q25) fun q26=>
 bite q21.2.1 (
 obind (texture_Right fl (q21.2.2.2.2.2.2.1,(q21.2.2.2.2.2.2.2.1,q21.2.2.2.2.2.2.2.2.1))) fun q27=>
 bite q21.2.2.2.2.2.1 (
 bnd (F.mul .i64 q21.2.2.1 q21.2.2.2.1) fun v28=>
 bnd (F.eq q21.2.2.2.2.1 v28) fun v29=>
 bnd (F.beq q27 v29) fun v30=>
 bite v30 (
 obind (texture_Right fl (q21.2.2.2.2.2.2.2.2.2.1,(q21.2.2.2.2.2.2.2.2.2.2.1,q21.2.2.2.2.2.2.2.2.2.2.2.1))) fun q31=>
 bnd (F.beq q31 q21.2.2.2.2.2.1) fun v32=>
 bite v32 (
 some q26) (
 some false)) (
 some false)) (
 bnd (F.beq q27 false) fun v33=>
 bite v33 (
 obind (texture_Right fl (q21.2.2.2.2.2.2.2.2.2.1,(q21.2.2.2.2.2.2.2.2.2.2.1,q21.2.2.2.2.2.2.2.2.2.2.2.1))) fun q34=>
 bnd (F.beq q34 q21.2.2.2.2.2.1) fun v35=>
 bite v35 (
 some q26) (
 some false)) (
 some false))) (
 some false)) (
 obind (glazierlaw11_few x2) fun q36=>
 obind (glazierref11_wrap q36.1 16) fun q37=>
 bnd (F.add .i64 1 q37) fun v38=>
 obind (glazierref11_wrap q36.2.1 16) fun q39=>
 bnd (F.add .i64 1 q39) fun v40=>
 obind (glazierlaw11_TextureRight_i9_l1 fl fl 0 x1 q3 v5 v7 v9 false q36.1 q36.2.1 q36.2.2 v38 v40 [] x0.1 x0.2 x2.1 x2.2.1 x2.2.2 v5 v7 (F.fill v9 (0,(0,(0,0)))) v5 v7 (F.fill v10 (0,(0,(0,0))))) fun q41=>
 obind (glazierlaw11_TextureRight_l1 fl fl q41.1 q41.2.1 q41.2.2.1 q41.2.2.2.1 q41.2.2.2.2.1 q41.2.2.2.2.2.1 0 q41.2.2.2.2.2.2.2.2.2.2.2.2.2.2.1 q41.2.2.2.2.2.2.2.2.2.2.2.2.2.2.2.1 q41.2.2.2.2.2.2.2.2.2.2.2.2.2.2.2.2.1 q41.2.2.2.2.2.2.2.2.2.2.2.2.2.2.2.2.2.1 q41.2.2.2.2.2.2.2.2.2.2.2.2.2.2.2.2.2.2.1 q41.2.2.2.2.2.2.2.2.2.2.2.2.2.2.2.2.2.2.2.1 q41.2.2.2.2.2.2.1 q41.2.2.2.2.2.2.2.1 q41.2.2.2.2.2.2.2.2.1) fun q42=>
 bnd (F.conv .i64 q42.1) fun v43=>
 bnd (F.mul .i64 5 v43) fun v44=>
 bnd (F.sub .i64 q42.2.2.1 q42.2.2.2.1) fun v45=>
 obind (texture_Smooth fl (q42.2.2.2.2.2.2.2.2.2.2.2.2.1,(q42.2.2.2.2.2.2.2.2.2.2.2.2.2.1,q42.2.2.2.2.2.2.2.2.2.2.2.2.2.2.1)) v44 v45) fun q46=>
 obind (glazierref02_Right q46) fun q47=>
 bite q42.2.1 (
 obind (texture_Right fl (q42.2.2.2.2.2.2.1,(q42.2.2.2.2.2.2.2.1,q42.2.2.2.2.2.2.2.2.1))) fun q48=>
 bite q42.2.2.2.2.2.1 (
 bnd (F.mul .i64 q42.2.2.1 q42.2.2.2.1) fun v49=>
 bnd (F.eq q42.2.2.2.2.1 v49) fun v50=>
 bnd (F.beq q48 v50) fun v51=>
 bite v51 (
 obind (texture_Right fl (q42.2.2.2.2.2.2.2.2.2.1,(q42.2.2.2.2.2.2.2.2.2.2.1,q42.2.2.2.2.2.2.2.2.2.2.2.1))) fun q52=>
 bnd (F.beq q52 q42.2.2.2.2.2.1) fun v53=>
 bite v53 (
 some q47) (
 some false)) (
 some false)) (
 bnd (F.beq q48 false) fun v54=>
 bite v54 (
 obind (texture_Right fl (q42.2.2.2.2.2.2.2.2.2.1,(q42.2.2.2.2.2.2.2.2.2.2.1,q42.2.2.2.2.2.2.2.2.2.2.2.1))) fun q55=>
 bnd (F.beq q55 q42.2.2.2.2.2.1) fun v56=>
 bite v56 (
 some q47) (
 some false)) (
 some false))) (
 some false))) (
 obind (glazierlaw11_few x2) fun q57=>
 obind (glazierref11_wrap q57.1 16) fun q58=>
 bnd (F.add .i64 1 q58) fun v59=>
 obind (glazierref11_wrap q57.2.1 16) fun q60=>
 bnd (F.add .i64 1 q60) fun v61=>
 obind (glazierlaw11_TextureRight_i9_l1 fl fl 0 x1 q3 v5 v7 v9 false q57.1 q57.2.1 q57.2.2 v59 v61 [] x0.1 x0.2 x2.1 x2.2.1 x2.2.2 v5 v7 (F.fill v9 (0,(0,(0,0)))) v5 v7 (F.fill v10 (0,(0,(0,0))))) fun q62=>
 obind (glazierlaw11_TextureRight_l1 fl fl q62.1 q62.2.1 q62.2.2.1 q62.2.2.2.1 q62.2.2.2.2.1 q62.2.2.2.2.2.1 0 q62.2.2.2.2.2.2.2.2.2.2.2.2.2.2.1 q62.2.2.2.2.2.2.2.2.2.2.2.2.2.2.2.1 q62.2.2.2.2.2.2.2.2.2.2.2.2.2.2.2.2.1 q62.2.2.2.2.2.2.2.2.2.2.2.2.2.2.2.2.2.1 q62.2.2.2.2.2.2.2.2.2.2.2.2.2.2.2.2.2.2.1 q62.2.2.2.2.2.2.2.2.2.2.2.2.2.2.2.2.2.2.2.1 q62.2.2.2.2.2.2.1 q62.2.2.2.2.2.2.2.1 q62.2.2.2.2.2.2.2.2.1) fun q63=>
 bnd (F.conv .i64 q63.1) fun v64=>
 bnd (F.mul .i64 5 v64) fun v65=>
 bnd (F.sub .i64 q63.2.2.1 q63.2.2.2.1) fun v66=>
 obind (texture_Smooth fl (q63.2.2.2.2.2.2.2.2.2.2.2.2.1,(q63.2.2.2.2.2.2.2.2.2.2.2.2.2.1,q63.2.2.2.2.2.2.2.2.2.2.2.2.2.2.1)) v65 v66) fun q67=>
 obind (glazierref02_Right q67) fun q68=>
 bite q63.2.1 (
 obind (texture_Right fl (q63.2.2.2.2.2.2.1,(q63.2.2.2.2.2.2.2.1,q63.2.2.2.2.2.2.2.2.1))) fun q69=>
 bite q63.2.2.2.2.2.1 (
 bnd (F.mul .i64 q63.2.2.1 q63.2.2.2.1) fun v70=>
 bnd (F.eq q63.2.2.2.2.1 v70) fun v71=>
 bnd (F.beq q69 v71) fun v72=>
 bite v72 (
 obind (texture_Right fl (q63.2.2.2.2.2.2.2.2.2.1,(q63.2.2.2.2.2.2.2.2.2.2.1,q63.2.2.2.2.2.2.2.2.2.2.2.1))) fun q73=>
 bnd (F.beq q73 q63.2.2.2.2.2.1) fun v74=>
 bite v74 (
 some q68) (
 some false)) (
 some false)) (
 bnd (F.beq q69 false) fun v75=>
 bite v75 (
 obind (texture_Right fl (q63.2.2.2.2.2.2.2.2.2.1,(q63.2.2.2.2.2.2.2.2.2.2.1,q63.2.2.2.2.2.2.2.2.2.2.2.1))) fun q76=>
 bnd (F.beq q76 q63.2.2.2.2.2.1) fun v77=>
 bite v77 (
 some q68) (
 some false)) (
 some false))) (
 some false))) (
 obind (glazierlaw11_few x2) fun q78=>
 obind (glazierref11_wrap q78.1 16) fun q79=>
 bnd (F.add .i64 1 q79) fun v80=>
 obind (glazierref11_wrap q78.2.1 16) fun q81=>
 bnd (F.add .i64 1 q81) fun v82=>
 obind (glazierlaw11_TextureRight_i9_l1 fl fl 0 x1 q3 v5 v7 v9 false q78.1 q78.2.1 q78.2.2 v80 v82 [] x0.1 x0.2 x2.1 x2.2.1 x2.2.2 v5 v7 (F.fill v9 (0,(0,(0,0)))) v5 v7 (F.fill v10 (0,(0,(0,0))))) fun q83=>
 obind (glazierlaw11_TextureRight_l1 fl fl q83.1 q83.2.1 q83.2.2.1 q83.2.2.2.1 q83.2.2.2.2.1 q83.2.2.2.2.2.1 0 q83.2.2.2.2.2.2.2.2.2.2.2.2.2.2.1 q83.2.2.2.2.2.2.2.2.2.2.2.2.2.2.2.1 q83.2.2.2.2.2.2.2.2.2.2.2.2.2.2.2.2.1 q83.2.2.2.2.2.2.2.2.2.2.2.2.2.2.2.2.2.1 q83.2.2.2.2.2.2.2.2.2.2.2.2.2.2.2.2.2.2.1 q83.2.2.2.2.2.2.2.2.2.2.2.2.2.2.2.2.2.2.2.1 q83.2.2.2.2.2.2.1 q83.2.2.2.2.2.2.2.1 q83.2.2.2.2.2.2.2.2.1) fun q84=>
 bnd (F.conv .i64 q84.1) fun v85=>
 bnd (F.mul .i64 5 v85) fun v86=>
 bnd (F.sub .i64 q84.2.2.1 q84.2.2.2.1) fun v87=>
 obind (texture_Smooth fl (q84.2.2.2.2.2.2.2.2.2.2.2.2.1,(q84.2.2.2.2.2.2.2.2.2.2.2.2.2.1,q84.2.2.2.2.2.2.2.2.2.2.2.2.2.2.1)) v86 v87) fun q88=>
 obind (glazierref02_Right q88) fun q89=>
 bite q84.2.1 (
 obind (texture_Right fl (q84.2.2.2.2.2.2.1,(q84.2.2.2.2.2.2.2.1,q84.2.2.2.2.2.2.2.2.1))) fun q90=>
 bite q84.2.2.2.2.2.1 (
 bnd (F.mul .i64 q84.2.2.1 q84.2.2.2.1) fun v91=>
 bnd (F.eq q84.2.2.2.2.1 v91) fun v92=>
 bnd (F.beq q90 v92) fun v93=>
 bite v93 (
 obind (texture_Right fl (q84.2.2.2.2.2.2.2.2.2.1,(q84.2.2.2.2.2.2.2.2.2.2.1,q84.2.2.2.2.2.2.2.2.2.2.2.1))) fun q94=>
 bnd (F.beq q94 q84.2.2.2.2.2.1) fun v95=>
 bite v95 (
 some q89) (
 some false)) (
 some false)) (
 bnd (F.beq q90 false) fun v96=>
 bite v96 (
 obind (texture_Right fl (q84.2.2.2.2.2.2.2.2.2.1,(q84.2.2.2.2.2.2.2.2.2.2.1,q84.2.2.2.2.2.2.2.2.2.2.2.1))) fun q97=>
 bnd (F.beq q97 q84.2.2.2.2.2.1) fun v98=>
 bite v98 (
 some q89) (
 some false)) (
 some false))) (
 some false))))
end Go.Proofs.Ytomndhdpdhiplaa.G
