/- Plain functions, printed by program out of the given ones: what each Go function comes to. -/
import Derived.Test.YtomndhdpdhiplaaMchA
set_option linter.unusedVariables false
namespace Go.Proofs.Ytomndhdpdhiplaa.G
open Go Go.Proofs.Ytomndhdpdhiplaa.M

/-- glazier/fixed.size -/
def fixed_size (x0 : Int) : Option (Int) :=
  bnd (F.neg .i64 x0) fun v1 =>
  bnd (F.max x0 v1) fun v2 =>
  bnd (F.conv .u64 v2) fun v3 =>
  some v3

/-- math/bits.Mul64 -/
def bits_Mul64 (x0 : Int) (x1 : Int) : Option (Int × Int) :=
  bnd (F.and .u64 x0 4294967295) fun v2 =>
  bnd (F.shr .u64 x0 32) fun v3 =>
  bnd (F.and .u64 x1 4294967295) fun v4 =>
  bnd (F.shr .u64 x1 32) fun v5 =>
  bnd (F.mul .u64 v2 v4) fun v6 =>
  bnd (F.mul .u64 v3 v4) fun v7 =>
  bnd (F.shr .u64 v6 32) fun v8 =>
  bnd (F.add .u64 v7 v8) fun v9 =>
  bnd (F.and .u64 v9 4294967295) fun v10 =>
  bnd (F.shr .u64 v9 32) fun v11 =>
  bnd (F.mul .u64 v2 v5) fun v12 =>
  bnd (F.add .u64 v10 v12) fun v13 =>
  bnd (F.mul .u64 v3 v5) fun v14 =>
  bnd (F.add .u64 v14 v11) fun v15 =>
  bnd (F.shr .u64 v13 32) fun v16 =>
  bnd (F.add .u64 v15 v16) fun v17 =>
  bnd (F.mul .u64 x0 x1) fun v18 =>
  some (v17, v18)

/-- math/bits.LeadingZeros64 -/
def bits_LeadingZeros64 (x0 : Int) : Option (Int) :=
  none

def bits_Div64_l1 (fl : Nat) : Nat → Int → Int → Int → Int → Int → Int → Int → Int → Int → Option (Int × Int × Int × Int × Int × Int × Int × Int × Int × Unit)
  | 0, _, _, _, _, _, _, _, _, _ => none
  | n + 1, x0, x1, x2, x3, x4, x5, x6, x7, x8 =>
    bnd (F.ge x7 4294967296) fun v9 =>
    bite v9 (
      bnd (F.sub .u64 x7 1) fun v10 =>
      bnd (F.add .u64 x8 x2) fun v11 =>
      bnd (F.ge v11 4294967296) fun v12 =>
      bite v12 (
        some (x0, (x1, (x2, (x3, (x4, (x5, (x6, (v10, (v11, ())))))))))) (
        bits_Div64_l1 fl n x0 x1 x2 x3 x4 x5 x6 v10 v11)) (
      bnd (F.mul .u64 x7 x3) fun v13 =>
      bnd (F.mul .u64 4294967296 x8) fun v14 =>
      bnd (F.add .u64 v14 x5) fun v15 =>
      bnd (F.gt v13 v15) fun v16 =>
      bite v16 (
        bnd (F.sub .u64 x7 1) fun v17 =>
        bnd (F.add .u64 x8 x2) fun v18 =>
        bnd (F.ge v18 4294967296) fun v19 =>
        bite v19 (
          some (x0, (x1, (x2, (x3, (x4, (x5, (x6, (v17, (v18, ())))))))))) (
          bits_Div64_l1 fl n x0 x1 x2 x3 x4 x5 x6 v17 v18)) (
        some (x0, (x1, (x2, (x3, (x4, (x5, (x6, (x7, (x8, ())))))))))))

def bits_Div64_l2 (fl : Nat) : Nat → Int → Int → Int → Int → Int → Int → Int → Int → Int → Option (Int × Int × Int × Int × Int × Int × Unit)
  | 0, _, _, _, _, _, _, _, _, _ => none
  | n + 1, x0, x1, x2, x3, x4, x5, x6, x7, x8 =>
    bnd (F.ge x8 4294967296) fun v9 =>
    bite v9 (
      bnd (F.sub .u64 x8 1) fun v10 =>
      bnd (F.add .u64 x6 x2) fun v11 =>
      bnd (F.ge v11 4294967296) fun v12 =>
      bite v12 (
        some (x0, (x1, (x4, (x5, (x7, (v10, ()))))))) (
        bits_Div64_l2 fl n x0 x1 x2 x3 x4 x5 v11 x7 v10)) (
      bnd (F.mul .u64 x8 x3) fun v13 =>
      bnd (F.mul .u64 4294967296 x6) fun v14 =>
      bnd (F.add .u64 v14 x4) fun v15 =>
      bnd (F.gt v13 v15) fun v16 =>
      bite v16 (
        bnd (F.sub .u64 x8 1) fun v17 =>
        bnd (F.add .u64 x6 x2) fun v18 =>
        bnd (F.ge v18 4294967296) fun v19 =>
        bite v19 (
          some (x0, (x1, (x4, (x5, (x7, (v17, ()))))))) (
          bits_Div64_l2 fl n x0 x1 x2 x3 x4 x5 v18 x7 v17)) (
        some (x0, (x1, (x4, (x5, (x7, (x8, ()))))))))

/-- math/bits.Div64 -/
def bits_Div64 (fl : Nat) (x0 : Int) (x1 : Int) (x2 : Int) : Option (Int × Int) :=
  bnd (F.eq x2 0) fun v3 =>
  bite v3 (
    none) (
    bnd (F.le x2 x0) fun v4 =>
    bite v4 (
      none) (
      bnd (F.eq x0 0) fun v5 =>
      bite v5 (
        bgd (F.nonzero x2) (
          bnd (F.quo .u64 x1 x2) fun v6 =>
          bgd (F.nonzero x2) (
            bnd (F.rem x1 x2) fun v7 =>
            some (v6, v7)))) (
        obind (bits_LeadingZeros64 x2) fun q8 =>
        bnd (F.conv .u64 q8) fun v9 =>
        bgd (F.nonneg v9) (
          bnd (F.shl .u64 x2 v9) fun v10 =>
          bnd (F.shr .u64 v10 32) fun v11 =>
          bnd (F.and .u64 v10 4294967295) fun v12 =>
          bgd (F.nonneg v9) (
            bnd (F.shl .u64 x0 v9) fun v13 =>
            bnd (F.sub .u64 64 v9) fun v14 =>
            bgd (F.nonneg v14) (
              bnd (F.shr .u64 x1 v14) fun v15 =>
              bnd (F.or .u64 v13 v15) fun v16 =>
              bgd (F.nonneg v9) (
                bnd (F.shl .u64 x1 v9) fun v17 =>
                bnd (F.shr .u64 v17 32) fun v18 =>
                bnd (F.and .u64 v17 4294967295) fun v19 =>
                bgd (F.nonzero v11) (
                  bnd (F.quo .u64 v16 v11) fun v20 =>
                  bnd (F.mul .u64 v20 v11) fun v21 =>
                  bnd (F.sub .u64 v16 v21) fun v22 =>
                  obind (bits_Div64_l1 fl fl v10 v9 v11 v12 v16 v18 v19 v20 v22) fun q23 =>
                  bnd (F.mul .u64 q23.2.2.2.2.1 4294967296) fun v24 =>
                  bnd (F.add .u64 v24 q23.2.2.2.2.2.1) fun v25 =>
                  bnd (F.mul .u64 q23.2.2.2.2.2.2.2.1 q23.1) fun v26 =>
                  bnd (F.sub .u64 v25 v26) fun v27 =>
                  bgd (F.nonzero q23.2.2.1) (
                    bnd (F.quo .u64 v27 q23.2.2.1) fun v28 =>
                    bnd (F.mul .u64 v28 q23.2.2.1) fun v29 =>
                    bnd (F.sub .u64 v27 v29) fun v30 =>
                    obind (bits_Div64_l2 fl fl q23.1 q23.2.1 q23.2.2.1 q23.2.2.2.1 q23.2.2.2.2.2.2.1 q23.2.2.2.2.2.2.2.1 v30 v27 v28) fun q31 =>
                    bnd (F.mul .u64 q31.2.2.2.1 4294967296) fun v32 =>
                    bnd (F.add .u64 v32 q31.2.2.2.2.2.1) fun v33 =>
                    bnd (F.mul .u64 q31.2.2.2.2.1 4294967296) fun v34 =>
                    bnd (F.add .u64 v34 q31.2.2.1) fun v35 =>
                    bnd (F.mul .u64 q31.2.2.2.2.2.1 q31.1) fun v36 =>
                    bnd (F.sub .u64 v35 v36) fun v37 =>
                    bgd (F.nonneg q31.2.1) (
                      bnd (F.shr .u64 v37 q31.2.1) fun v38 =>
                      some (v33, v38)))))))))))

/-- glazier/fixed.checked -/
def fixed_checked (x0 : Int) (x1 : Bool) : Option (Int × Int) :=
  bnd (F.not x1) fun v2 =>
  bite v2 (
    some (0, 2)) (
    some (x0, 0))

/-- glazier/fixed.signed -/
def fixed_signed (x0 : Int) (x1 : Bool) : Option (Int × Int) :=
  bite x1 (
    bnd (F.neg .u64 x0) fun v2 =>
    bnd (F.conv .i64 v2) fun v3 =>
    bnd (F.le x0 9223372036854775808) fun v4 =>
    obind (fixed_checked v3 v4) fun q5 =>
    some q5) (
    bnd (F.conv .i64 x0) fun v6 =>
    bnd (F.le x0 9223372036854775807) fun v7 =>
    obind (fixed_checked v6 v7) fun q8 =>
    some q8)

/-- glazier/fixed.MulDiv -/
def fixed_MulDiv (fl : Nat) (x0 : Int) (x1 : Int) (x2 : Int) : Option (Int × Int) :=
  bnd (F.eq x2 0) fun v3 =>
  bite v3 (
    some (0, 3)) (
    obind (fixed_size x0) fun q4 =>
    obind (fixed_size x1) fun q5 =>
    obind (bits_Mul64 q4 q5) fun q6 =>
    obind (fixed_size x2) fun q7 =>
    bnd (F.ge q6.1 q7) fun v8 =>
    bite v8 (
      some (0, 2)) (
      obind (bits_Div64 fl q6.1 q6.2 q7) fun q9 =>
      bnd (F.lt x0 0) fun v10 =>
      bnd (F.lt x1 0) fun v11 =>
      bnd (F.bne v10 v11) fun v12 =>
      bnd (F.lt x2 0) fun v13 =>
      bnd (F.bne v12 v13) fun v14 =>
      bite v14 (
        bnd (F.gt q9.2 0) fun v15 =>
        bite v15 (
          bnd (F.add .u64 q9.1 1) fun v16 =>
          bnd (F.eq v16 0) fun v17 =>
          bite v17 (
            some (0, 2)) (
            obind (fixed_signed v16 v14) fun q18 =>
            some q18)) (
          obind (fixed_signed q9.1 v14) fun q19 =>
          some q19)) (
        obind (fixed_signed q9.1 v14) fun q20 =>
        some q20)))

/-- glazier/fixed.Floor -/
def fixed_Floor (fl : Nat) (x0 : Int) (x1 : Int) : Option (Int × Int) :=
  obind (fixed_MulDiv fl x0 1 x1) fun q2 =>
  some q2

/-- glazier/texture.cut -/
def texture_cut (fl : Nat) (x0 : Int) : Option (Int × Int) :=
  obind (fixed_Floor fl x0 16) fun q1 =>
  bnd (F.mul .i64 16 q1.1) fun v2 =>
  bnd (F.sub .i64 x0 v2) fun v3 =>
  some (q1.1, v3)

def texture_sides_l1 (fl : Nat) : Nat → (List (Int)) → Int → Int → Option (((Unit) ⊕ (Unit)))
  | 0, _, _, _ => none
  | n + 1, x0, x1, x2 =>
    bnd (F.lt x2 x1) fun v3 =>
    bite v3 (
      obind (F.get x0 x2) fun q4 =>
      bnd (F.lt q4 1) fun v5 =>
      bite v5 (
        some (.inl ())) (
        bnd (F.gt q4 16) fun v6 =>
        bite v6 (
          some (.inl ())) (
          bnd (F.add .i64 x2 1) fun v7 =>
          texture_sides_l1 fl n x0 x1 v7))) (
      some (.inr ()))

/-- glazier/texture.sides -/
def texture_sides (fl : Nat) (x0 : List (Int)) : Option (Bool) :=
  bnd (F.len x0) fun v1 =>
  obind (texture_sides_l1 fl fl x0 v1 0) fun q2 =>
  osum q2 (fun s3 =>
    some false) (fun r4 =>
    some true)

/-- glazier/texture.Right -/
def texture_Right (fl : Nat) (x0 : Int × Int × List (Int × Int × Int × Int)) : Option (Bool) :=
  obind (texture_sides fl [x0.1, x0.2.1]) fun q1 =>
  bite q1 (
    bnd (F.len x0.2.2) fun v2 =>
    bnd (F.mul .i64 x0.1 x0.2.1) fun v3 =>
    bnd (F.eq v2 v3) fun v4 =>
    some v4) (
    some false)

/-- glazier/texture.Texel -/
def texture_Texel (fl : Nat) (x0 : Int × Int × List (Int × Int × Int × Int)) (x1 : Int) (x2 : Int) : Option (Int × Int × Int × Int) :=
  obind (texture_Right fl x0) fun q3 =>
  bnd (F.not q3) fun v4 =>
  bite v4 (
    some (0, (0, (0, 0)))) (
    bgd (F.nonzero x0.1) (
      bnd (F.rem x1 x0.1) fun v5 =>
      bnd (F.add .i64 v5 x0.1) fun v6 =>
      bgd (F.nonzero x0.1) (
        bnd (F.rem v6 x0.1) fun v7 =>
        bgd (F.nonzero x0.2.1) (
          bnd (F.rem x2 x0.2.1) fun v8 =>
          bnd (F.add .i64 v8 x0.2.1) fun v9 =>
          bgd (F.nonzero x0.2.1) (
            bnd (F.rem v9 x0.2.1) fun v10 =>
            bnd (F.mul .i64 v10 x0.1) fun v11 =>
            bnd (F.add .i64 v11 v7) fun v12 =>
            obind (F.get x0.2.2 v12) fun q13 =>
            some q13)))))

/-- glazier/colour.Mix$1 -/
def colour_Mix_1 (x0 : Int) (x1 : Int) (x2 : Int) : Option (Int) :=
  bnd (F.sub .i64 256 x2) fun v3 =>
  bnd (F.mul .i64 x0 v3) fun v4 =>
  bnd (F.mul .i64 x1 x2) fun v5 =>
  bnd (F.add .i64 v4 v5) fun v6 =>
  bnd (F.add .i64 v6 128) fun v7 =>
  bnd (F.quo .i64 v7 256) fun v8 =>
  some v8

/-- glazier/fixed.Sat -/
def fixed_Sat (x0 : Int) : Option (Int) :=
  bnd (F.max x0 0) fun v1 =>
  bnd (F.min v1 255) fun v2 =>
  bnd (F.conv .u8 v2) fun v3 =>
  some v3

/-- glazier/colour.each$1 -/
def colour_each_1 (x0 : Int) (x1 : Int) (x2 : Int) : Option (Int) :=
  bnd (F.conv .i64 x0) fun v3 =>
  bnd (F.conv .i64 x1) fun v4 =>
  obind (colour_Mix_1 v3 v4 x2) fun q5 =>
  obind (fixed_Sat q5) fun q6 =>
  some q6

/-- glazier/colour.each -/
def colour_each (x0 : Int × Int × Int × Int) (x1 : Int × Int × Int × Int) (x2 : Int) : Option (Int × Int × Int × Int) :=
  obind (colour_each_1 x0.1 x1.1 x2) fun q3 =>
  obind (colour_each_1 x0.2.1 x1.2.1 x2) fun q4 =>
  obind (colour_each_1 x0.2.2.1 x1.2.2.1 x2) fun q5 =>
  obind (colour_each_1 x0.2.2.2 x1.2.2.2 x2) fun q6 =>
  some (q3, (q4, (q5, q6)))

/-- glazier/colour.Mix -/
def colour_Mix (x0 : Int × Int × Int × Int) (x1 : Int × Int × Int × Int) (x2 : Int) : Option (Int × Int × Int × Int) :=
  bnd (F.max x2 0) fun v3 =>
  bnd (F.min v3 256) fun v4 =>
  obind (colour_each x0 x1 v4) fun q5 =>
  some q5

/-- glazier/texture.Smooth$1 -/
def texture_Smooth_1 (fl : Nat) (x0 : Int) (x1 : Int × Int × List (Int × Int × Int × Int)) (x2 : Int) (x3 : Int) : Option (Int × Int × Int × Int) :=
  obind (texture_Texel fl x1 x2 x0) fun q4 =>
  bnd (F.add .i64 x2 1) fun v5 =>
  obind (texture_Texel fl x1 v5 x0) fun q6 =>
  bnd (F.mul .i64 16 x3) fun v7 =>
  obind (colour_Mix q4 q6 v7) fun q8 =>
  some q8

/-- glazier/texture.Smooth -/
def texture_Smooth (fl : Nat) (x0 : Int × Int × List (Int × Int × Int × Int)) (x1 : Int) (x2 : Int) : Option (Int × Int × Int × Int) :=
  bnd (F.sub .i64 x1 8) fun v3 =>
  obind (texture_cut fl v3) fun q4 =>
  bnd (F.sub .i64 x2 8) fun v5 =>
  obind (texture_cut fl v5) fun q6 =>
  obind (texture_Smooth_1 fl q6.1 x0 q4.1 q4.2) fun q7 =>
  bnd (F.add .i64 q6.1 1) fun v8 =>
  obind (texture_Smooth_1 fl v8 x0 q4.1 q4.2) fun q9 =>
  bnd (F.mul .i64 16 q6.2) fun v10 =>
  obind (colour_Mix q7 q9 v10) fun q11 =>
  some q11

/-- glazier/glazierlaw11.shown -/
def glazierlaw11_shown (fl : Nat)  : Option (Bool) :=
  obind (texture_Smooth fl (2, (1, [(0, (0, (0, 0))), (255, (255, (255, 255)))])) 16 0) fun q0 =>
  bnd (F.both (F.eq q0.1 128) (F.both (F.eq q0.2.1 128) (F.both (F.eq q0.2.2.1 128) (F.eq q0.2.2.2 128)))) fun v1 =>
  some v1

/-- glazier/glazierlaw11.few -/
def glazierlaw11_few (x0 : Int × Int × List (Int × Int × Int × Int)) : Option (Int × Int × List (Int × Int × Int × Int)) :=
  bnd (F.len x0.2.2) fun v1 =>
  bnd (F.gt v1 300) fun v2 =>
  bite v2 (
    bgd (F.cutOk x0.2.2 0 300) (
      bnd (F.cut x0.2.2 0 300) fun v3 =>
      some (x0.1, (x0.2.1, v3)))) (
    some x0)

/-- glazier/glazierref11.wrap -/
def glazierref11_wrap (x0 : Int) (x1 : Int) : Option (Int) :=
  bgd (F.nonzero x1) (
    bnd (F.rem x0 x1) fun v2 =>
    bnd (F.lt v2 0) fun v3 =>
    bite v3 (
      bnd (F.add .i64 v2 x1) fun v4 =>
      some v4) (
      some v2))

def glazierref11_Fit_l1 (fl : Nat) : Nat → Int → Int → Int → (List (Int × Int × Int × Int)) → Int → Int → (List (Int × Int × Int × Int)) → Option (Int × Int × (List (Int × Int × Int × Int)) × Unit)
  | 0, _, _, _, _, _, _, _ => none
  | n + 1, x0, x1, x2, x3, x4, x5, x6 =>
    bnd (F.mul .i64 x4 x5) fun v7 =>
    bnd (F.lt x0 v7) fun v8 =>
    bite v8 (
      bnd (F.mul .i64 x0 16) fun v9 =>
      bnd (F.conv .u8 v9) fun v10 =>
      bnd (F.conv .u8 x0) fun v11 =>
      bnd (F.len x3) fun v12 =>
      bnd (F.lt x0 v12) fun v13 =>
      bite v13 (
        obind (F.get x3 x0) fun q14 =>
        bgd (F.appOk 4 x6 [q14]) (
          bnd (F.app x6 [q14]) fun v15 =>
          bnd (F.add .i64 x0 1) fun v16 =>
          glazierref11_Fit_l1 fl n v16 x1 x2 x3 x4 x5 v15)) (
        bgd (F.appOk 4 x6 [(v10, (v11, (7, 255)))]) (
          bnd (F.app x6 [(v10, (v11, (7, 255)))]) fun v17 =>
          bnd (F.add .i64 x0 1) fun v18 =>
          glazierref11_Fit_l1 fl n v18 x1 x2 x3 x4 x5 v17))) (
      some (x4, (x5, (x6, ()))))

/-- glazier/glazierref11.Fit -/
def glazierref11_Fit (fl : Nat) (x0 : Int × Int × List (Int × Int × Int × Int)) : Option (Int × Int × List (Int × Int × Int × Int)) :=
  obind (glazierref11_wrap x0.1 16) fun q1 =>
  bnd (F.add .i64 1 q1) fun v2 =>
  obind (glazierref11_wrap x0.2.1 16) fun q3 =>
  bnd (F.add .i64 1 q3) fun v4 =>
  obind (glazierref11_Fit_l1 fl fl 0 x0.1 x0.2.1 x0.2.2 v2 v4 []) fun q5 =>
  some (q5.1, (q5.2.1, q5.2.2.1))

/-- glazier/glazierref01.Div255 -/
def glazierref01_Div255 (x0 : Int) : Option (Int) :=
  bnd (F.lt x0 0) fun v1 =>
  bite v1 (
    some 0) (
    bnd (F.gt x0 65025) fun v2 =>
    bite v2 (
      some 255) (
      bnd (F.mul .i64 2 x0) fun v3 =>
      bnd (F.add .i64 v3 255) fun v4 =>
      bnd (F.quo .i64 v4 510) fun v5 =>
      some v5))

/-- glazier/glazierref02.part -/
def glazierref02_part (x0 : Int) (x1 : Int) : Option (Int) :=
  bnd (F.conv .i64 x0) fun v2 =>
  bnd (F.conv .i64 x1) fun v3 =>
  bnd (F.mul .i64 v2 v3) fun v4 =>
  obind (glazierref01_Div255 v4) fun q5 =>
  bnd (F.conv .u8 q5) fun v6 =>
  some v6

/-- glazier/glazierref02.Pre -/
def glazierref02_Pre (x0 : Int × Int × Int × Int) : Option (Int × Int × Int × Int) :=
  obind (glazierref02_part x0.1 x0.2.2.2) fun q1 =>
  obind (glazierref02_part x0.2.1 x0.2.2.2) fun q2 =>
  obind (glazierref02_part x0.2.2.1 x0.2.2.2) fun q3 =>
  some (q1, (q2, (q3, x0.2.2.2)))

/-- glazier/glazierref02.Right -/
def glazierref02_Right (x0 : Int × Int × Int × Int) : Option (Bool) :=
  bnd (F.le x0.1 x0.2.2.2) fun v1 =>
  bite v1 (
    bnd (F.le x0.2.1 x0.2.2.2) fun v2 =>
    bite v2 (
      bnd (F.le x0.2.2.1 x0.2.2.2) fun v3 =>
      some v3) (
      some false)) (
    some false)

/-- glazier/glazierlaw11.TextureRight -/
def glazierlaw11_TextureRight (fl : Nat) (x0 : Int × Int) (x1 : Int) (x2 : Int × Int × List (Int × Int × Int × Int)) : Option (Bool) :=
  obind (glazierlaw11_shown fl) fun q3 =>
  bnd (F.conv .i64 x0.1) fun v4 =>
  bnd (F.rem v4 21) fun v5 =>
  bnd (F.conv .i64 x0.2) fun v6 =>
  bnd (F.rem v6 21) fun v7 =>
  bnd (F.conv .i64 x1) fun v8 =>
  bnd (F.rem v8 401) fun v9 =>
  bgd (F.fillOk 4 v9) (
    bnd (F.mul .i64 v5 v7) fun v10 =>
    bgd (F.fillOk 4 v10) (
      bnd (F.ge v5 1) fun v11 =>
      bite v11 (
        bnd (F.le v5 16) fun v12 =>
        bite v12 (
          bnd (F.ge v7 1) fun v13 =>
          bite v13 (
            bnd (F.le v7 16) fun v14 =>
            obind (glazierlaw11_few x2) fun q15 =>
            obind (glazierref11_Fit fl q15) fun q16 =>
            bnd (F.len q16.2.2) fun v17 =>
            bnd (F.lt 0 v17) fun v18 =>
            bite v18 (
              obind (F.get q16.2.2 0) fun q19 =>
              obind (glazierref02_Pre q19) fun q20 =>
              none) (
              bnd (F.conv .i64 x1) fun v21 =>
              bnd (F.mul .i64 5 v21) fun v22 =>
              bnd (F.sub .i64 v5 v7) fun v23 =>
              obind (texture_Smooth fl q16 v22 v23) fun q24 =>
              obind (glazierref02_Right q24) fun q25 =>
              bite q3 (
                obind (texture_Right fl (v5, (v7, (F.fill v9 (0, (0, (0, 0))))))) fun q26 =>
                bite v14 (
                  bnd (F.mul .i64 v5 v7) fun v27 =>
                  bnd (F.eq v9 v27) fun v28 =>
                  bnd (F.beq q26 v28) fun v29 =>
                  bite v29 (
                    obind (texture_Right fl (v5, (v7, (F.fill v10 (0, (0, (0, 0))))))) fun q30 =>
                    bnd (F.beq q30 v14) fun v31 =>
                    bite v31 (
                      some q25) (
                      some false)) (
                    some false)) (
                  bnd (F.beq q26 false) fun v32 =>
                  bite v32 (
                    obind (texture_Right fl (v5, (v7, (F.fill v10 (0, (0, (0, 0))))))) fun q33 =>
                    bnd (F.beq q33 v14) fun v34 =>
                    bite v34 (
                      some q25) (
                      some false)) (
                    some false))) (
                some false))) (
            obind (glazierlaw11_few x2) fun q35 =>
            obind (glazierref11_Fit fl q35) fun q36 =>
            bnd (F.len q36.2.2) fun v37 =>
            bnd (F.lt 0 v37) fun v38 =>
            bite v38 (
              obind (F.get q36.2.2 0) fun q39 =>
              obind (glazierref02_Pre q39) fun q40 =>
              none) (
              bnd (F.conv .i64 x1) fun v41 =>
              bnd (F.mul .i64 5 v41) fun v42 =>
              bnd (F.sub .i64 v5 v7) fun v43 =>
              obind (texture_Smooth fl q36 v42 v43) fun q44 =>
              obind (glazierref02_Right q44) fun q45 =>
              bite q3 (
                obind (texture_Right fl (v5, (v7, (F.fill v9 (0, (0, (0, 0))))))) fun q46 =>
                bnd (F.beq q46 false) fun v47 =>
                bite v47 (
                  obind (texture_Right fl (v5, (v7, (F.fill v10 (0, (0, (0, 0))))))) fun q48 =>
                  bnd (F.beq q48 false) fun v49 =>
                  bite v49 (
                    some q45) (
                    some false)) (
                  some false)) (
                some false)))) (
          obind (glazierlaw11_few x2) fun q50 =>
          obind (glazierref11_Fit fl q50) fun q51 =>
          bnd (F.len q51.2.2) fun v52 =>
          bnd (F.lt 0 v52) fun v53 =>
          bite v53 (
            obind (F.get q51.2.2 0) fun q54 =>
            obind (glazierref02_Pre q54) fun q55 =>
            none) (
            bnd (F.conv .i64 x1) fun v56 =>
            bnd (F.mul .i64 5 v56) fun v57 =>
            bnd (F.sub .i64 v5 v7) fun v58 =>
            obind (texture_Smooth fl q51 v57 v58) fun q59 =>
            obind (glazierref02_Right q59) fun q60 =>
            bite q3 (
              obind (texture_Right fl (v5, (v7, (F.fill v9 (0, (0, (0, 0))))))) fun q61 =>
              bnd (F.beq q61 false) fun v62 =>
              bite v62 (
                obind (texture_Right fl (v5, (v7, (F.fill v10 (0, (0, (0, 0))))))) fun q63 =>
                bnd (F.beq q63 false) fun v64 =>
                bite v64 (
                  some q60) (
                  some false)) (
                some false)) (
              some false)))) (
        obind (glazierlaw11_few x2) fun q65 =>
        obind (glazierref11_Fit fl q65) fun q66 =>
        bnd (F.len q66.2.2) fun v67 =>
        bnd (F.lt 0 v67) fun v68 =>
        bite v68 (
          obind (F.get q66.2.2 0) fun q69 =>
          obind (glazierref02_Pre q69) fun q70 =>
          none) (
          bnd (F.conv .i64 x1) fun v71 =>
          bnd (F.mul .i64 5 v71) fun v72 =>
          bnd (F.sub .i64 v5 v7) fun v73 =>
          obind (texture_Smooth fl q66 v72 v73) fun q74 =>
          obind (glazierref02_Right q74) fun q75 =>
          bite q3 (
            obind (texture_Right fl (v5, (v7, (F.fill v9 (0, (0, (0, 0))))))) fun q76 =>
            bnd (F.beq q76 false) fun v77 =>
            bite v77 (
              obind (texture_Right fl (v5, (v7, (F.fill v10 (0, (0, (0, 0))))))) fun q78 =>
              bnd (F.beq q78 false) fun v79 =>
              bite v79 (
                some q75) (
                some false)) (
              some false)) (
            some false)))))

/-- glazier/glazierlaw11.small -/
def glazierlaw11_small (x0 : Int) : Option (Int) :=
  bnd (F.rem x0 1099511627777) fun v1 =>
  some v1

/-- glazier/glazierref11.Right -/
def glazierref11_Right (x0 : Int × Int × List (Int × Int × Int × Int)) : Option (Bool) :=
  bnd (F.ge x0.1 1) fun v1 =>
  bite v1 (
    bnd (F.le x0.1 16) fun v2 =>
    bite v2 (
      bnd (F.ge x0.2.1 1) fun v3 =>
      bite v3 (
        bnd (F.le x0.2.1 16) fun v4 =>
        bite v4 (
          bnd (F.len x0.2.2) fun v5 =>
          bnd (F.mul .i64 x0.1 x0.2.1) fun v6 =>
          bnd (F.eq v5 v6) fun v7 =>
          some v7) (
          some false)) (
        some false)) (
      some false)) (
    some false)

/-- glazier/glazierref11.Texel -/
def glazierref11_Texel (x0 : Int × Int × List (Int × Int × Int × Int)) (x1 : Int) (x2 : Int) : Option (Int × Int × Int × Int) :=
  obind (glazierref11_Right x0) fun q3 =>
  bnd (F.not q3) fun v4 =>
  bite v4 (
    some (0, (0, (0, 0)))) (
    obind (glazierref11_wrap x2 x0.2.1) fun q5 =>
    bnd (F.mul .i64 q5 x0.1) fun v6 =>
    obind (glazierref11_wrap x1 x0.1) fun q7 =>
    bnd (F.add .i64 v6 q7) fun v8 =>
    obind (F.get x0.2.2 v8) fun q9 =>
    some q9)

/-- glazier/texture.Nearest -/
def texture_Nearest (fl : Nat) (x0 : Int × Int × List (Int × Int × Int × Int)) (x1 : Int) (x2 : Int) : Option (Int × Int × Int × Int) :=
  obind (texture_cut fl x1) fun q3 =>
  obind (texture_cut fl x2) fun q4 =>
  obind (texture_Texel fl x0 q3.1 q4.1) fun q5 =>
  some q5

/-- glazier/glazierref01.size -/
def glazierref01_size (x0 : Int) : Option (Int) :=
  bnd (F.lt x0 0) fun v1 =>
  bite v1 (
    bnd (F.conv .u64 x0) fun v2 =>
    bnd (F.sub .u64 0 v2) fun v3 =>
    some v3) (
    bnd (F.conv .u64 x0) fun v4 =>
    some v4)

def glazierref01_times_l1 (fl : Nat) : Nat → Int → Int → Int → Int → Int → Int → Int → Option (Int × Int × Int × Int × Unit)
  | 0, _, _, _, _, _, _, _ => none
  | n + 1, x0, x1, x2, x3, x4, x5, x6 =>
    bnd (F.ge x6 0) fun v7 =>
    bite v7 (
      bnd (F.mul .u64 x4 2) fun v8 =>
      bnd (F.quo .u64 x5 9223372036854775808) fun v9 =>
      bnd (F.add .u64 v8 v9) fun v10 =>
      bnd (F.mul .u64 x5 2) fun v11 =>
      bgd (F.nonneg x6) (
        bnd (F.shr .u64 x2 x6) fun v12 =>
        bnd (F.rem v12 2) fun v13 =>
        bnd (F.eq v13 1) fun v14 =>
        bite v14 (
          bnd (F.add .u64 v11 x3) fun v15 =>
          bnd (F.lt v15 v11) fun v16 =>
          bite v16 (
            bnd (F.add .u64 v10 1) fun v17 =>
            bnd (F.sub .i64 x6 1) fun v18 =>
            glazierref01_times_l1 fl n x0 x1 x2 x3 v17 v15 v18) (
            bnd (F.sub .i64 x6 1) fun v19 =>
            glazierref01_times_l1 fl n x0 x1 x2 x3 v10 v15 v19)) (
          bnd (F.sub .i64 x6 1) fun v20 =>
          glazierref01_times_l1 fl n x0 x1 x2 x3 v10 v11 v20))) (
      some (x0, (x1, (x4, (x5, ())))))

/-- glazier/glazierref01.times -/
def glazierref01_times (fl : Nat) (x0 : Int) (x1 : Int) : Option (Int × Int × Bool) :=
  obind (glazierref01_size x0) fun q2 =>
  obind (glazierref01_size x1) fun q3 =>
  obind (glazierref01_times_l1 fl fl x0 x1 q2 q3 0 0 63) fun q4 =>
  bnd (F.lt q4.1 0) fun v5 =>
  bnd (F.lt q4.2.1 0) fun v6 =>
  bnd (F.bne v5 v6) fun v7 =>
  bite v7 (
    bnd (F.gt q4.2.2.1 0) fun v8 =>
    bite v8 (
      some (q4.2.2.1, (q4.2.2.2.1, true))) (
      bnd (F.gt q4.2.2.2.1 0) fun v9 =>
      some (q4.2.2.1, (q4.2.2.2.1, v9)))) (
    some (q4.2.2.1, (q4.2.2.2.1, false)))

def glazierref01_parts_l1 (fl : Nat) : Nat → Int → Int → Int → Int → Int → Int → Int → Bool → Option (Int × Int × Int × Unit)
  | 0, _, _, _, _, _, _, _, _ => none
  | n + 1, x0, x1, x2, x3, x4, x5, x6, x7 =>
    bnd (F.ge x4 0) fun v8 =>
    bite v8 (
      bnd (F.gt x4 63) fun v9 =>
      bite v9 (
        bnd (F.sub .i64 x4 64) fun v10 =>
        bgd (F.nonneg v10) (
          bnd (F.shr .u64 x5 v10) fun v11 =>
          bnd (F.rem v11 2) fun v12 =>
          bnd (F.ge x3 9223372036854775808) fun v13 =>
          bnd (F.mul .u64 x3 2) fun v14 =>
          bnd (F.add .u64 v14 v12) fun v15 =>
          bnd (F.mul .u64 x1 2) fun v16 =>
          bnd (F.quo .u64 x2 9223372036854775808) fun v17 =>
          bnd (F.add .u64 v16 v17) fun v18 =>
          bnd (F.mul .u64 x2 2) fun v19 =>
          bite v13 (
            bnd (F.sub .u64 v15 x0) fun v20 =>
            bnd (F.add .u64 v19 1) fun v21 =>
            bnd (F.sub .i64 x4 1) fun v22 =>
            glazierref01_parts_l1 fl n x0 v18 v21 v20 v22 x5 x6 x7) (
            bnd (F.ge v15 x0) fun v23 =>
            bite v23 (
              bnd (F.sub .u64 v15 x0) fun v24 =>
              bnd (F.add .u64 v19 1) fun v25 =>
              bnd (F.sub .i64 x4 1) fun v26 =>
              glazierref01_parts_l1 fl n x0 v18 v25 v24 v26 x5 x6 x7) (
              bnd (F.sub .i64 x4 1) fun v27 =>
              glazierref01_parts_l1 fl n x0 v18 v19 v15 v27 x5 x6 x7)))) (
        bgd (F.nonneg x4) (
          bnd (F.shr .u64 x6 x4) fun v28 =>
          bnd (F.rem v28 2) fun v29 =>
          bnd (F.ge x3 9223372036854775808) fun v30 =>
          bnd (F.mul .u64 x3 2) fun v31 =>
          bnd (F.add .u64 v31 v29) fun v32 =>
          bnd (F.mul .u64 x1 2) fun v33 =>
          bnd (F.quo .u64 x2 9223372036854775808) fun v34 =>
          bnd (F.add .u64 v33 v34) fun v35 =>
          bnd (F.mul .u64 x2 2) fun v36 =>
          bite v30 (
            bnd (F.sub .u64 v32 x0) fun v37 =>
            bnd (F.add .u64 v36 1) fun v38 =>
            bnd (F.sub .i64 x4 1) fun v39 =>
            glazierref01_parts_l1 fl n x0 v35 v38 v37 v39 x5 x6 x7) (
            bnd (F.ge v32 x0) fun v40 =>
            bite v40 (
              bnd (F.sub .u64 v32 x0) fun v41 =>
              bnd (F.add .u64 v36 1) fun v42 =>
              bnd (F.sub .i64 x4 1) fun v43 =>
              glazierref01_parts_l1 fl n x0 v35 v42 v41 v43 x5 x6 x7) (
              bnd (F.sub .i64 x4 1) fun v44 =>
              glazierref01_parts_l1 fl n x0 v35 v36 v32 v44 x5 x6 x7))))) (
      some (x1, (x2, (x3, ()))))

/-- glazier/glazierref01.parts -/
def glazierref01_parts (fl : Nat) (x0 : Int × Int × Bool) (x1 : Int) : Option (Int × Int × Int) :=
  obind (glazierref01_parts_l1 fl fl x1 0 0 0 127 x0.1 x0.2.1 x0.2.2) fun q2 =>
  some (q2.1, (q2.2.1, q2.2.2.1))

/-- glazier/glazierref01.told -/
def glazierref01_told (x0 : Int) (x1 : Int) (x2 : Bool) : Option (Int × Int) :=
  bite x2 (
    bnd (F.gt x0 0) fun v3 =>
    bite v3 (
      some (0, 2)) (
      bnd (F.gt x1 9223372036854775808) fun v4 =>
      bite v4 (
        some (0, 2)) (
        bite x2 (
          bnd (F.sub .u64 0 x1) fun v5 =>
          bnd (F.conv .i64 v5) fun v6 =>
          some (v6, 0)) (
          bnd (F.conv .i64 x1) fun v7 =>
          some (v7, 0))))) (
    bnd (F.gt x0 0) fun v8 =>
    bite v8 (
      some (0, 2)) (
      bnd (F.gt x1 9223372036854775807) fun v9 =>
      bite v9 (
        some (0, 2)) (
        bite x2 (
          bnd (F.sub .u64 0 x1) fun v10 =>
          bnd (F.conv .i64 v10) fun v11 =>
          some (v11, 0)) (
          bnd (F.conv .i64 x1) fun v12 =>
          some (v12, 0)))))

/-- glazier/glazierref01.MulDiv -/
def glazierref01_MulDiv (fl : Nat) (x0 : Int) (x1 : Int) (x2 : Int) : Option (Int × Int) :=
  bnd (F.eq x2 0) fun v3 =>
  bite v3 (
    some (0, 3)) (
    obind (glazierref01_times fl x0 x1) fun q4 =>
    bnd (F.lt x2 0) fun v5 =>
    bnd (F.bne q4.2.2 v5) fun v6 =>
    bite v6 (
      bnd (F.gt q4.1 0) fun v7 =>
      bite v7 (
        obind (glazierref01_size x2) fun q8 =>
        obind (glazierref01_parts fl q4 q8) fun q9 =>
        bnd (F.gt q9.2.2 0) fun v10 =>
        bite v10 (
          bnd (F.add .u64 q9.2.1 1) fun v11 =>
          bnd (F.eq v11 0) fun v12 =>
          bite v12 (
            bnd (F.add .u64 q9.1 1) fun v13 =>
            obind (glazierref01_told v13 v11 true) fun q14 =>
            some q14) (
            obind (glazierref01_told q9.1 v11 true) fun q15 =>
            some q15)) (
          obind (glazierref01_told q9.1 q9.2.1 true) fun q16 =>
          some q16)) (
        bnd (F.gt q4.2.1 0) fun v17 =>
        obind (glazierref01_size x2) fun q18 =>
        obind (glazierref01_parts fl q4 q18) fun q19 =>
        bite v17 (
          bnd (F.gt q19.2.2 0) fun v20 =>
          bite v20 (
            bnd (F.add .u64 q19.2.1 1) fun v21 =>
            bnd (F.eq v21 0) fun v22 =>
            bite v22 (
              bnd (F.add .u64 q19.1 1) fun v23 =>
              obind (glazierref01_told v23 v21 v17) fun q24 =>
              some q24) (
              obind (glazierref01_told q19.1 v21 v17) fun q25 =>
              some q25)) (
            obind (glazierref01_told q19.1 q19.2.1 v17) fun q26 =>
            some q26)) (
          obind (glazierref01_told q19.1 q19.2.1 v17) fun q27 =>
          some q27))) (
      obind (glazierref01_size x2) fun q28 =>
      obind (glazierref01_parts fl q4 q28) fun q29 =>
      obind (glazierref01_told q29.1 q29.2.1 false) fun q30 =>
      some q30))

/-- glazier/glazierref01.Floor -/
def glazierref01_Floor (fl : Nat) (x0 : Int) (x1 : Int) : Option (Int × Int) :=
  obind (glazierref01_MulDiv fl x0 1 x1) fun q2 =>
  some q2

/-- glazier/glazierref01.Down -/
def glazierref01_Down (fl : Nat) (x0 : Int) (x1 : Int) : Option (Int) :=
  obind (glazierref01_Floor fl x0 x1) fun q2 =>
  some q2.1

/-- glazier/glazierref11.Nearest -/
def glazierref11_Nearest (fl : Nat) (x0 : Int × Int × List (Int × Int × Int × Int)) (x1 : Int) (x2 : Int) : Option (Int × Int × Int × Int) :=
  obind (glazierref01_Down fl x1 16) fun q3 =>
  obind (glazierref01_Down fl x2 16) fun q4 =>
  obind (glazierref11_Texel x0 q3 q4) fun q5 =>
  some q5

/-- glazier/glazierref02.mix -/
def glazierref02_mix (x0 : Int) (x1 : Int) (x2 : Int) : Option (Int) :=
  bnd (F.conv .i64 x0) fun v3 =>
  bnd (F.sub .i64 256 x2) fun v4 =>
  bnd (F.mul .i64 v3 v4) fun v5 =>
  bnd (F.conv .i64 x1) fun v6 =>
  bnd (F.mul .i64 v6 x2) fun v7 =>
  bnd (F.add .i64 v5 v7) fun v8 =>
  bnd (F.add .i64 v8 128) fun v9 =>
  bnd (F.quo .i64 v9 256) fun v10 =>
  bnd (F.conv .u8 v10) fun v11 =>
  some v11

/-- glazier/glazierref02.Mix -/
def glazierref02_Mix (x0 : Int × Int × Int × Int) (x1 : Int × Int × Int × Int) (x2 : Int) : Option (Int × Int × Int × Int) :=
  bnd (F.lt x2 0) fun v3 =>
  bite v3 (
    obind (glazierref02_mix x0.1 x1.1 0) fun q4 =>
    obind (glazierref02_mix x0.2.1 x1.2.1 0) fun q5 =>
    obind (glazierref02_mix x0.2.2.1 x1.2.2.1 0) fun q6 =>
    obind (glazierref02_mix x0.2.2.2 x1.2.2.2 0) fun q7 =>
    some (q4, (q5, (q6, q7)))) (
    bnd (F.gt x2 256) fun v8 =>
    bite v8 (
      obind (glazierref02_mix x0.1 x1.1 256) fun q9 =>
      obind (glazierref02_mix x0.2.1 x1.2.1 256) fun q10 =>
      obind (glazierref02_mix x0.2.2.1 x1.2.2.1 256) fun q11 =>
      obind (glazierref02_mix x0.2.2.2 x1.2.2.2 256) fun q12 =>
      some (q9, (q10, (q11, q12)))) (
      obind (glazierref02_mix x0.1 x1.1 x2) fun q13 =>
      obind (glazierref02_mix x0.2.1 x1.2.1 x2) fun q14 =>
      obind (glazierref02_mix x0.2.2.1 x1.2.2.1 x2) fun q15 =>
      obind (glazierref02_mix x0.2.2.2 x1.2.2.2 x2) fun q16 =>
      some (q13, (q14, (q15, q16)))))

/-- glazier/glazierref11.Smooth -/
def glazierref11_Smooth (fl : Nat) (x0 : Int × Int × List (Int × Int × Int × Int)) (x1 : Int) (x2 : Int) : Option (Int × Int × Int × Int) :=
  bnd (F.sub .i64 x1 8) fun v3 =>
  obind (glazierref01_Down fl v3 16) fun q4 =>
  bnd (F.sub .i64 x2 8) fun v5 =>
  obind (glazierref01_Down fl v5 16) fun q6 =>
  bnd (F.sub .i64 x1 8) fun v7 =>
  obind (glazierref11_wrap v7 16) fun q8 =>
  bnd (F.mul .i64 16 q8) fun v9 =>
  bnd (F.sub .i64 x2 8) fun v10 =>
  obind (glazierref11_wrap v10 16) fun q11 =>
  bnd (F.mul .i64 16 q11) fun v12 =>
  obind (glazierref11_Texel x0 q4 q6) fun q13 =>
  bnd (F.add .i64 q4 1) fun v14 =>
  obind (glazierref11_Texel x0 v14 q6) fun q15 =>
  obind (glazierref02_Mix q13 q15 v9) fun q16 =>
  bnd (F.add .i64 q6 1) fun v17 =>
  obind (glazierref11_Texel x0 q4 v17) fun q18 =>
  bnd (F.add .i64 q4 1) fun v19 =>
  bnd (F.add .i64 q6 1) fun v20 =>
  obind (glazierref11_Texel x0 v19 v20) fun q21 =>
  obind (glazierref02_Mix q18 q21 v9) fun q22 =>
  obind (glazierref02_Mix q16 q22 v12) fun q23 =>
  some q23

/-- glazier/glazierlaw11.TextureAll -/
def glazierlaw11_TextureAll (fl : Nat) (x0 : Int × Int × List (Int × Int × Int × Int)) (x1 : Int) (x2 : Int) : Option (Bool) :=
  obind (glazierlaw11_shown fl) fun q3 =>
  obind (glazierlaw11_few x0) fun q4 =>
  obind (glazierref11_Fit fl q4) fun q5 =>
  obind (glazierlaw11_small x1) fun q6 =>
  obind (glazierlaw11_small x2) fun q7 =>
  obind (texture_Right fl q4) fun q8 =>
  obind (glazierref11_Right q4) fun q9 =>
  bnd (F.bne q8 q9) fun v10 =>
  bite v10 (
    some false) (
    obind (texture_Texel fl q4 x1 x2) fun q11 =>
    obind (glazierref11_Texel q4 x1 x2) fun q12 =>
    bnd (F.not (F.both (F.eq q11.1 q12.1) (F.both (F.eq q11.2.1 q12.2.1) (F.both (F.eq q11.2.2.1 q12.2.2.1) (F.eq q11.2.2.2 q12.2.2.2))))) fun v13 =>
    bite v13 (
      some false) (
      obind (texture_Nearest fl q4 q6 q7) fun q14 =>
      obind (glazierref11_Nearest fl q4 q6 q7) fun q15 =>
      bnd (F.not (F.both (F.eq q14.1 q15.1) (F.both (F.eq q14.2.1 q15.2.1) (F.both (F.eq q14.2.2.1 q15.2.2.1) (F.eq q14.2.2.2 q15.2.2.2))))) fun v16 =>
      bite v16 (
        some false) (
        obind (texture_Smooth fl q4 q6 q7) fun q17 =>
        obind (glazierref11_Smooth fl q4 q6 q7) fun q18 =>
        bnd (F.not (F.both (F.eq q17.1 q18.1) (F.both (F.eq q17.2.1 q18.2.1) (F.both (F.eq q17.2.2.1 q18.2.2.1) (F.eq q17.2.2.2 q18.2.2.2))))) fun v19 =>
        bite v19 (
          some false) (
          bite q3 (
            obind (texture_Right fl q5) fun q20 =>
            bite q20 (
              obind (texture_Texel fl q5 x1 x2) fun q21 =>
              obind (glazierref11_Texel q5 x1 x2) fun q22 =>
              bnd (F.both (F.eq q21.1 q22.1) (F.both (F.eq q21.2.1 q22.2.1) (F.both (F.eq q21.2.2.1 q22.2.2.1) (F.eq q21.2.2.2 q22.2.2.2)))) fun v23 =>
              bite v23 (
                obind (texture_Nearest fl q5 q6 q7) fun q24 =>
                obind (glazierref11_Nearest fl q5 q6 q7) fun q25 =>
                bnd (F.both (F.eq q24.1 q25.1) (F.both (F.eq q24.2.1 q25.2.1) (F.both (F.eq q24.2.2.1 q25.2.2.1) (F.eq q24.2.2.2 q25.2.2.2)))) fun v26 =>
                bite v26 (
                  obind (texture_Smooth fl q5 q6 q7) fun q27 =>
                  obind (glazierref11_Smooth fl q5 q6 q7) fun q28 =>
                  bnd (F.both (F.eq q27.1 q28.1) (F.both (F.eq q27.2.1 q28.2.1) (F.both (F.eq q27.2.2.1 q28.2.2.1) (F.eq q27.2.2.2 q28.2.2.2)))) fun v29 =>
                  some v29) (
                  some false)) (
                some false)) (
              some false)) (
            some false)))))

def glazierlaw11_TextureMiddles_l1 (fl : Nat) : Nat → Bool → Int → Int → Int → Int → Int → (List (Int × Int × Int × Int)) → Option (((Unit) ⊕ (Bool × Int × Int × Int × Int × (List (Int × Int × Int × Int)) × Unit)))
  | 0, _, _, _, _, _, _, _ => none
  | n + 1, x0, x1, x2, x3, x4, x5, x6 =>
    bnd (F.len x6) fun v7 =>
    bnd (F.lt x3 v7) fun v8 =>
    bite v8 (
      bgd (F.nonzero x4) (
        bnd (F.rem x3 x4) fun v9 =>
        bgd (F.nonzero x4) (
          bnd (F.quo .i64 x3 x4) fun v10 =>
          obind (texture_Texel fl (x4, (x5, x6)) v9 v10) fun q11 =>
          obind (F.get x6 x3) fun q12 =>
          bnd (F.not (F.both (F.eq q11.1 q12.1) (F.both (F.eq q11.2.1 q12.2.1) (F.both (F.eq q11.2.2.1 q12.2.2.1) (F.eq q11.2.2.2 q12.2.2.2))))) fun v13 =>
          bite v13 (
            some (.inl ())) (
            bnd (F.add .i64 x3 1) fun v14 =>
            glazierlaw11_TextureMiddles_l1 fl n x0 x1 x2 v14 x4 x5 x6)))) (
      some (.inr (x0, (x1, (x2, (x4, (x5, (x6, ()))))))))

/-- glazier/glazierlaw11.TextureMiddles -/
def glazierlaw11_TextureMiddles (fl : Nat) (x0 : Int × Int × List (Int × Int × Int × Int)) (x1 : Int) (x2 : Int) : Option (Bool) :=
  obind (glazierlaw11_shown fl) fun q3 =>
  obind (glazierlaw11_few x0) fun q4 =>
  obind (glazierref11_Fit fl q4) fun q5 =>
  bnd (F.rem x1 1073741824) fun v6 =>
  bnd (F.rem x2 1073741824) fun v7 =>
  obind (texture_Texel fl q5 v6 v7) fun q8 =>
  bnd (F.mul .i64 16 v6) fun v9 =>
  bnd (F.add .i64 v9 8) fun v10 =>
  bnd (F.mul .i64 16 v7) fun v11 =>
  bnd (F.add .i64 v11 8) fun v12 =>
  obind (texture_Nearest fl q5 v10 v12) fun q13 =>
  bnd (F.not (F.both (F.eq q13.1 q8.1) (F.both (F.eq q13.2.1 q8.2.1) (F.both (F.eq q13.2.2.1 q8.2.2.1) (F.eq q13.2.2.2 q8.2.2.2))))) fun v14 =>
  bite v14 (
    some false) (
    bnd (F.mul .i64 16 v6) fun v15 =>
    bnd (F.add .i64 v15 8) fun v16 =>
    bnd (F.mul .i64 16 v7) fun v17 =>
    bnd (F.add .i64 v17 8) fun v18 =>
    obind (texture_Smooth fl q5 v16 v18) fun q19 =>
    bnd (F.not (F.both (F.eq q19.1 q8.1) (F.both (F.eq q19.2.1 q8.2.1) (F.both (F.eq q19.2.2.1 q8.2.2.1) (F.eq q19.2.2.2 q8.2.2.2))))) fun v20 =>
    bite v20 (
      some false) (
      bnd (F.add .i64 v6 q5.1) fun v21 =>
      obind (texture_Texel fl q5 v21 v7) fun q22 =>
      bnd (F.not (F.both (F.eq q22.1 q8.1) (F.both (F.eq q22.2.1 q8.2.1) (F.both (F.eq q22.2.2.1 q8.2.2.1) (F.eq q22.2.2.2 q8.2.2.2))))) fun v23 =>
      bite v23 (
        some false) (
        bnd (F.sub .i64 v7 q5.2.1) fun v24 =>
        obind (texture_Texel fl q5 v6 v24) fun q25 =>
        bnd (F.not (F.both (F.eq q25.1 q8.1) (F.both (F.eq q25.2.1 q8.2.1) (F.both (F.eq q25.2.2.1 q8.2.2.1) (F.eq q25.2.2.2 q8.2.2.2))))) fun v26 =>
        bite v26 (
          some false) (
          obind (glazierlaw11_TextureMiddles_l1 fl fl q3 v6 v7 0 q5.1 q5.2.1 q5.2.2) fun q27 =>
          osum q27 (fun s28 =>
            some false) (fun r29 =>
            bite r29.1 (
              bnd (F.mul .i64 16 r29.2.2.2.1) fun v30 =>
              bnd (F.add .i64 r29.2.1 v30) fun v31 =>
              obind (texture_Smooth fl (r29.2.2.2.1, (r29.2.2.2.2.1, r29.2.2.2.2.2.1)) v31 r29.2.2.1) fun q32 =>
              obind (texture_Smooth fl (r29.2.2.2.1, (r29.2.2.2.2.1, r29.2.2.2.2.2.1)) r29.2.1 r29.2.2.1) fun q33 =>
              bnd (F.both (F.eq q32.1 q33.1) (F.both (F.eq q32.2.1 q33.2.1) (F.both (F.eq q32.2.2.1 q33.2.2.1) (F.eq q32.2.2.2 q33.2.2.2)))) fun v34 =>
              bite v34 (
                bnd (F.mul .i64 16 r29.2.2.2.2.1) fun v35 =>
                bnd (F.add .i64 r29.2.2.1 v35) fun v36 =>
                obind (texture_Nearest fl (r29.2.2.2.1, (r29.2.2.2.2.1, r29.2.2.2.2.2.1)) r29.2.1 v36) fun q37 =>
                obind (texture_Nearest fl (r29.2.2.2.1, (r29.2.2.2.2.1, r29.2.2.2.2.2.1)) r29.2.1 r29.2.2.1) fun q38 =>
                bnd (F.both (F.eq q37.1 q38.1) (F.both (F.eq q37.2.1 q38.2.1) (F.both (F.eq q37.2.2.1 q38.2.2.1) (F.eq q37.2.2.2 q38.2.2.2)))) fun v39 =>
                some v39) (
                some false)) (
              some false))))))

def glazierlaw11_TextureOne_l1 (fl : Nat) : Nat → Bool → Int → Int → Int → Int → Int → Int → Int → Int → Int → (List (Int × Int × Int × Int)) → Int → Int → (List (Int × Int × Int × Int)) → Option (Bool × Int × Int × Int × Int × Int × Int × Int × Int × (List (Int × Int × Int × Int)) × Int × Int × (List (Int × Int × Int × Int)) × Unit)
  | 0, _, _, _, _, _, _, _, _, _, _, _, _, _, _ => none
  | n + 1, x0, x1, x2, x3, x4, x5, x6, x7, x8, x9, x10, x11, x12, x13 =>
    bnd (F.mul .i64 x8 x9) fun v14 =>
    bnd (F.lt x3 v14) fun v15 =>
    bite v15 (
      bgd (F.appOk 4 x13 [(x4, (x5, (x6, x7)))]) (
        bnd (F.app x13 [(x4, (x5, (x6, x7)))]) fun v16 =>
        bnd (F.add .i64 x3 1) fun v17 =>
        glazierlaw11_TextureOne_l1 fl n x0 x1 x2 v17 x4 x5 x6 x7 x8 x9 x10 x11 x12 v16)) (
      some (x0, (x1, (x2, (x4, (x5, (x6, (x7, (x8, (x9, (x10, (x11, (x12, (x13, ()))))))))))))))

def glazierlaw11_TextureOne_l2 (fl : Nat) : Nat → Bool → Int → Int → Int → Int → Int → Int → Int → Int → Int → Int → Int → (List (Int × Int × Int × Int)) → Int → Int → (List (Int × Int × Int × Int)) → Option (Bool × Int × Int × Int × Int × Int × Int × Int × Int × Int × Int × (List (Int × Int × Int × Int)) × Int × Int × (List (Int × Int × Int × Int)) × Unit)
  | 0, _, _, _, _, _, _, _, _, _, _, _, _, _, _, _, _ => none
  | n + 1, x0, x1, x2, x3, x4, x5, x6, x7, x8, x9, x10, x11, x12, x13, x14, x15 =>
    bnd (F.len x12) fun v16 =>
    bnd (F.lt x5 v16) fun v17 =>
    bite v17 (
      obind (F.get x12 x5) fun q18 =>
      bnd (F.min x3 q18.2.1) fun v19 =>
      obind (F.get x12 x5) fun q20 =>
      bnd (F.max x4 q20.2.1) fun v21 =>
      bnd (F.add .i64 x5 1) fun v22 =>
      glazierlaw11_TextureOne_l2 fl n x0 x1 x2 v19 v21 v22 x6 x7 x8 x9 x10 x11 x12 x13 x14 x15) (
      some (x0, (x1, (x2, (x3, (x4, (x6, (x7, (x8, (x9, (x10, (x11, (x12, (x13, (x14, (x15, ()))))))))))))))))

/-- glazier/glazierlaw11.TextureOne -/
def glazierlaw11_TextureOne (fl : Nat) (x0 : Int × Int × List (Int × Int × Int × Int)) (x1 : Int × Int × Int × Int) (x2 : Int × Int) : Option (Bool) :=
  obind (glazierlaw11_shown fl) fun q3 =>
  obind (glazierlaw11_few x0) fun q4 =>
  obind (glazierref11_Fit fl q4) fun q5 =>
  obind (glazierlaw11_small x2.1) fun q6 =>
  obind (glazierlaw11_small x2.2) fun q7 =>
  obind (glazierlaw11_TextureOne_l1 fl fl q3 q6 q7 0 x1.1 x1.2.1 x1.2.2.1 x1.2.2.2 q5.1 q5.2.1 q5.2.2 q5.1 q5.2.1 []) fun q8 =>
  obind (glazierlaw11_TextureOne_l2 fl fl q8.1 q8.2.1 q8.2.2.1 255 0 0 q8.2.2.2.1 q8.2.2.2.2.1 q8.2.2.2.2.2.1 q8.2.2.2.2.2.2.1 q8.2.2.2.2.2.2.2.1 q8.2.2.2.2.2.2.2.2.1 q8.2.2.2.2.2.2.2.2.2.1 q8.2.2.2.2.2.2.2.2.2.2.1 q8.2.2.2.2.2.2.2.2.2.2.2.1 q8.2.2.2.2.2.2.2.2.2.2.2.2.1) fun q9 =>
  obind (texture_Smooth fl (q9.2.2.2.2.2.2.2.2.2.1, (q9.2.2.2.2.2.2.2.2.2.2.1, q9.2.2.2.2.2.2.2.2.2.2.2.1)) q9.2.1 q9.2.2.1) fun q10 =>
  bnd (F.add .i64 q9.2.2.2.2.2.2.2.2.2.1 1) fun v11 =>
  bite q9.1 (
    obind (texture_Smooth fl (q9.2.2.2.2.2.2.2.2.2.2.2.2.1, (q9.2.2.2.2.2.2.2.2.2.2.2.2.2.1, q9.2.2.2.2.2.2.2.2.2.2.2.2.2.2.1)) q9.2.1 q9.2.2.1) fun q12 =>
    bnd (F.both (F.eq q12.1 q9.2.2.2.2.2.1) (F.both (F.eq q12.2.1 q9.2.2.2.2.2.2.1) (F.both (F.eq q12.2.2.1 q9.2.2.2.2.2.2.2.1) (F.eq q12.2.2.2 q9.2.2.2.2.2.2.2.2.1)))) fun v13 =>
    bite v13 (
      obind (texture_Nearest fl (q9.2.2.2.2.2.2.2.2.2.2.2.2.1, (q9.2.2.2.2.2.2.2.2.2.2.2.2.2.1, q9.2.2.2.2.2.2.2.2.2.2.2.2.2.2.1)) q9.2.1 q9.2.2.1) fun q14 =>
      bnd (F.both (F.eq q14.1 q9.2.2.2.2.2.1) (F.both (F.eq q14.2.1 q9.2.2.2.2.2.2.1) (F.both (F.eq q14.2.2.1 q9.2.2.2.2.2.2.2.1) (F.eq q14.2.2.2 q9.2.2.2.2.2.2.2.2.1)))) fun v15 =>
      bite v15 (
        bnd (F.ge q10.2.1 q9.2.2.2.1) fun v16 =>
        bite v16 (
          bnd (F.le q10.2.1 q9.2.2.2.2.1) fun v17 =>
          bite v17 (
            obind (texture_Smooth fl (v11, (q9.2.2.2.2.2.2.2.2.2.2.1, q9.2.2.2.2.2.2.2.2.2.2.2.1)) q9.2.1 q9.2.2.1) fun q18 =>
            bnd (F.both (F.eq q18.1 0) (F.both (F.eq q18.2.1 0) (F.both (F.eq q18.2.2.1 0) (F.eq q18.2.2.2 0)))) fun v19 =>
            bite v19 (
              obind (texture_Nearest fl (v11, (q9.2.2.2.2.2.2.2.2.2.2.1, q9.2.2.2.2.2.2.2.2.2.2.2.1)) q9.2.1 q9.2.2.1) fun q20 =>
              bnd (F.both (F.eq q20.1 0) (F.both (F.eq q20.2.1 0) (F.both (F.eq q20.2.2.1 0) (F.eq q20.2.2.2 0)))) fun v21 =>
              bite v21 (
                obind (texture_Texel fl (v11, (q9.2.2.2.2.2.2.2.2.2.2.1, q9.2.2.2.2.2.2.2.2.2.2.2.1)) q9.2.1 q9.2.2.1) fun q22 =>
                bnd (F.both (F.eq q22.1 0) (F.both (F.eq q22.2.1 0) (F.both (F.eq q22.2.2.1 0) (F.eq q22.2.2.2 0)))) fun v23 =>
                bite v23 (
                  obind (texture_Right fl (v11, (q9.2.2.2.2.2.2.2.2.2.2.1, q9.2.2.2.2.2.2.2.2.2.2.2.1))) fun q24 =>
                  bnd (F.not q24) fun v25 =>
                  some v25) (
                  some false)) (
                some false)) (
              some false)) (
            some false)) (
          some false)) (
        some false)) (
      some false)) (
    some false)

def glazierlaw11_TextureShifts_l1 (fl : Nat) : Nat → Bool → Int → Int → Int → Int → Int → Int → (List (Int × Int × Int × Int)) → Int → Int → (List (Int × Int × Int × Int)) → Int → Int → (List (Int × Int × Int × Int)) → Option (Bool × Int × Int × Int × Int × Int × (List (Int × Int × Int × Int)) × Int × Int × (List (Int × Int × Int × Int)) × Int × Int × (List (Int × Int × Int × Int)) × Unit)
  | 0, _, _, _, _, _, _, _, _, _, _, _, _, _, _ => none
  | n + 1, x0, x1, x2, x3, x4, x5, x6, x7, x8, x9, x10, x11, x12, x13 =>
    bnd (F.mul .i64 x5 x6) fun v14 =>
    bnd (F.lt x4 v14) fun v15 =>
    bite v15 (
      bgd (F.nonzero x5) (
        bnd (F.quo .i64 x4 x5) fun v16 =>
        bnd (F.mul .i64 v16 x5) fun v17 =>
        bgd (F.nonzero x5) (
          bnd (F.rem x4 x5) fun v18 =>
          bnd (F.add .i64 v18 x3) fun v19 =>
          bgd (F.nonzero x5) (
            bnd (F.rem v19 x5) fun v20 =>
            bnd (F.add .i64 v17 v20) fun v21 =>
            obind (F.get x7 v21) fun q22 =>
            bgd (F.appOk 4 x10 [q22]) (
              bnd (F.app x10 [q22]) fun v23 =>
              bnd (F.sub .i64 x6 1) fun v24 =>
              bgd (F.nonzero x5) (
                bnd (F.quo .i64 x4 x5) fun v25 =>
                bnd (F.sub .i64 v24 v25) fun v26 =>
                bnd (F.mul .i64 v26 x5) fun v27 =>
                bgd (F.nonzero x5) (
                  bnd (F.rem x4 x5) fun v28 =>
                  bnd (F.add .i64 v27 v28) fun v29 =>
                  obind (F.get x7 v29) fun q30 =>
                  bgd (F.appOk 4 x13 [q30]) (
                    bnd (F.app x13 [q30]) fun v31 =>
                    bnd (F.add .i64 x4 1) fun v32 =>
                    glazierlaw11_TextureShifts_l1 fl n x0 x1 x2 x3 v32 x5 x6 x7 x8 x9 v23 x11 x12 v31)))))))) (
      some (x0, (x1, (x2, (x3, (x5, (x6, (x7, (x8, (x9, (x10, (x11, (x12, (x13, ()))))))))))))))

/-- glazier/glazierlaw11.TextureShifts -/
def glazierlaw11_TextureShifts (fl : Nat) (x0 : Int × Int × List (Int × Int × Int × Int)) (x1 : Int × Int) (x2 : Int) : Option (Bool) :=
  obind (glazierlaw11_shown fl) fun q3 =>
  obind (glazierlaw11_few x0) fun q4 =>
  obind (glazierref11_Fit fl q4) fun q5 =>
  bnd (F.rem x1.1 1073741824) fun v6 =>
  bnd (F.rem x1.2 1073741824) fun v7 =>
  bnd (F.conv .i64 x2) fun v8 =>
  bgd (F.nonzero q5.1) (
    bnd (F.rem v8 q5.1) fun v9 =>
    obind (glazierlaw11_TextureShifts_l1 fl fl q3 v6 v7 v9 0 q5.1 q5.2.1 q5.2.2 q5.1 q5.2.1 [] q5.1 q5.2.1 []) fun q10 =>
    bite q10.1 (
      obind (texture_Texel fl (q10.2.2.2.2.2.2.2.1, (q10.2.2.2.2.2.2.2.2.1, q10.2.2.2.2.2.2.2.2.2.1)) q10.2.1 q10.2.2.1) fun q11 =>
      bnd (F.add .i64 q10.2.1 q10.2.2.2.1) fun v12 =>
      obind (texture_Texel fl (q10.2.2.2.2.1, (q10.2.2.2.2.2.1, q10.2.2.2.2.2.2.1)) v12 q10.2.2.1) fun q13 =>
      bnd (F.both (F.eq q11.1 q13.1) (F.both (F.eq q11.2.1 q13.2.1) (F.both (F.eq q11.2.2.1 q13.2.2.1) (F.eq q11.2.2.2 q13.2.2.2)))) fun v14 =>
      bite v14 (
        obind (texture_Texel fl (q10.2.2.2.2.2.2.2.2.2.2.1, (q10.2.2.2.2.2.2.2.2.2.2.2.1, q10.2.2.2.2.2.2.2.2.2.2.2.2.1)) q10.2.1 q10.2.2.1) fun q15 =>
        bnd (F.sub .i64 (-1) q10.2.2.1) fun v16 =>
        obind (texture_Texel fl (q10.2.2.2.2.1, (q10.2.2.2.2.2.1, q10.2.2.2.2.2.2.1)) q10.2.1 v16) fun q17 =>
        bnd (F.both (F.eq q15.1 q17.1) (F.both (F.eq q15.2.1 q17.2.1) (F.both (F.eq q15.2.2.1 q17.2.2.1) (F.eq q15.2.2.2 q17.2.2.2)))) fun v18 =>
        bite v18 (
          obind (texture_Smooth fl (q10.2.2.2.2.2.2.2.1, (q10.2.2.2.2.2.2.2.2.1, q10.2.2.2.2.2.2.2.2.2.1)) q10.2.1 q10.2.2.1) fun q19 =>
          bnd (F.mul .i64 16 q10.2.2.2.1) fun v20 =>
          bnd (F.add .i64 q10.2.1 v20) fun v21 =>
          obind (texture_Smooth fl (q10.2.2.2.2.1, (q10.2.2.2.2.2.1, q10.2.2.2.2.2.2.1)) v21 q10.2.2.1) fun q22 =>
          bnd (F.both (F.eq q19.1 q22.1) (F.both (F.eq q19.2.1 q22.2.1) (F.both (F.eq q19.2.2.1 q22.2.2.1) (F.eq q19.2.2.2 q22.2.2.2)))) fun v23 =>
          bite v23 (
            obind (texture_Nearest fl (q10.2.2.2.2.2.2.2.1, (q10.2.2.2.2.2.2.2.2.1, q10.2.2.2.2.2.2.2.2.2.1)) q10.2.1 q10.2.2.1) fun q24 =>
            bnd (F.mul .i64 16 q10.2.2.2.1) fun v25 =>
            bnd (F.add .i64 q10.2.1 v25) fun v26 =>
            obind (texture_Nearest fl (q10.2.2.2.2.1, (q10.2.2.2.2.2.1, q10.2.2.2.2.2.2.1)) v26 q10.2.2.1) fun q27 =>
            bnd (F.both (F.eq q24.1 q27.1) (F.both (F.eq q24.2.1 q27.2.1) (F.both (F.eq q24.2.2.1 q27.2.2.1) (F.eq q24.2.2.2 q27.2.2.2)))) fun v28 =>
            some v28) (
            some false)) (
          some false)) (
        some false)) (
      some false))


end Go.Proofs.Ytomndhdpdhiplaa.G
