/- Plain functions, printed by program out of the given ones: what each Go function comes to. -/
import Derived.Test.YtcgkhlccmfbhnaaMchA
set_option linter.unusedVariables false
namespace Go.Proofs.Ytcgkhlccmfbhnaa.G
open Go Go.Proofs.Ytcgkhlccmfbhnaa.M

/-- glazier/edge.Cross -/
def edge_Cross (x0 : Int × Int × Int × Int × Int × Int × Int) (x1 : Int × Int × Int × Int × Int × Int × Int) (x2 : Int) (x3 : Int) : Option (Int) :=
  bnd (F.sub .i64 x1.1 x0.1) fun v4 =>
  bnd (F.sub .i64 x3 x0.2.1) fun v5 =>
  bnd (F.mul .i64 v4 v5) fun v6 =>
  bnd (F.sub .i64 x1.2.1 x0.2.1) fun v7 =>
  bnd (F.sub .i64 x2 x0.1) fun v8 =>
  bnd (F.mul .i64 v7 v8) fun v9 =>
  bnd (F.sub .i64 v6 v9) fun v10 =>
  some v10

/-- glazier/edge.Area -/
def edge_Area (x0 : (Int × Int × Int × Int × Int × Int × Int) × (Int × Int × Int × Int × Int × Int × Int) × Int × Int × Int × Int × Int × Int × Int) : Option (Int) :=
  obind (edge_Cross x0.1 x0.2.1 x0.2.2.1 x0.2.2.2.1) fun q1 =>
  some q1

/-- glazier/fixed.size -/
def fixed_size (x0 : Int) : Option (Int) :=
  bnd (F.neg .i64 x0) fun v1 =>
  bnd (F.max x0 v1) fun v2 =>
  bnd (F.conv .u64 v2) fun v3 =>
  some v3

/-- math/bits.Mul64 -/
def bits_Mul64 (x0 : Int) (x1 : Int) : Option (Int × Int) :=
  bnd (F.and .u64 x0 4294967295) fun v2 =>
  bnd (F.shr .u64 x0 32) fun v3 =>
  bnd (F.and .u64 x1 4294967295) fun v4 =>
  bnd (F.shr .u64 x1 32) fun v5 =>
  bnd (F.mul .u64 v2 v4) fun v6 =>
  bnd (F.mul .u64 v3 v4) fun v7 =>
  bnd (F.shr .u64 v6 32) fun v8 =>
  bnd (F.add .u64 v7 v8) fun v9 =>
  bnd (F.and .u64 v9 4294967295) fun v10 =>
  bnd (F.shr .u64 v9 32) fun v11 =>
  bnd (F.mul .u64 v2 v5) fun v12 =>
  bnd (F.add .u64 v10 v12) fun v13 =>
  bnd (F.mul .u64 v3 v5) fun v14 =>
  bnd (F.add .u64 v14 v11) fun v15 =>
  bnd (F.shr .u64 v13 32) fun v16 =>
  bnd (F.add .u64 v15 v16) fun v17 =>
  bnd (F.mul .u64 x0 x1) fun v18 =>
  some (v17, v18)

/-- math/bits.LeadingZeros64 -/
def bits_LeadingZeros64 (x0 : Int) : Option (Int) :=
  none

def bits_Div64_l1 (fl : Nat) : Nat → Int → Int → Int → Int → Int → Int → Int → Int → Int → Option (Int × Int × Int × Int × Int × Int × Int × Int × Int × Unit)
  | 0, _, _, _, _, _, _, _, _, _ => none
  | n + 1, x0, x1, x2, x3, x4, x5, x6, x7, x8 =>
    bnd (F.ge x7 4294967296) fun v9 =>
    bite v9 (
      bnd (F.sub .u64 x7 1) fun v10 =>
      bnd (F.add .u64 x8 x2) fun v11 =>
      bnd (F.ge v11 4294967296) fun v12 =>
      bite v12 (
        some (x0, (x1, (x2, (x3, (x4, (x5, (x6, (v10, (v11, ())))))))))) (
        bits_Div64_l1 fl n x0 x1 x2 x3 x4 x5 x6 v10 v11)) (
      bnd (F.mul .u64 x7 x3) fun v13 =>
      bnd (F.mul .u64 4294967296 x8) fun v14 =>
      bnd (F.add .u64 v14 x5) fun v15 =>
      bnd (F.gt v13 v15) fun v16 =>
      bite v16 (
        bnd (F.sub .u64 x7 1) fun v17 =>
        bnd (F.add .u64 x8 x2) fun v18 =>
        bnd (F.ge v18 4294967296) fun v19 =>
        bite v19 (
          some (x0, (x1, (x2, (x3, (x4, (x5, (x6, (v17, (v18, ())))))))))) (
          bits_Div64_l1 fl n x0 x1 x2 x3 x4 x5 x6 v17 v18)) (
        some (x0, (x1, (x2, (x3, (x4, (x5, (x6, (x7, (x8, ())))))))))))

def bits_Div64_l2 (fl : Nat) : Nat → Int → Int → Int → Int → Int → Int → Int → Int → Int → Option (Int × Int × Int × Int × Int × Int × Unit)
  | 0, _, _, _, _, _, _, _, _, _ => none
  | n + 1, x0, x1, x2, x3, x4, x5, x6, x7, x8 =>
    bnd (F.ge x8 4294967296) fun v9 =>
    bite v9 (
      bnd (F.sub .u64 x8 1) fun v10 =>
      bnd (F.add .u64 x6 x2) fun v11 =>
      bnd (F.ge v11 4294967296) fun v12 =>
      bite v12 (
        some (x0, (x1, (x4, (x5, (x7, (v10, ()))))))) (
        bits_Div64_l2 fl n x0 x1 x2 x3 x4 x5 v11 x7 v10)) (
      bnd (F.mul .u64 x8 x3) fun v13 =>
      bnd (F.mul .u64 4294967296 x6) fun v14 =>
      bnd (F.add .u64 v14 x4) fun v15 =>
      bnd (F.gt v13 v15) fun v16 =>
      bite v16 (
        bnd (F.sub .u64 x8 1) fun v17 =>
        bnd (F.add .u64 x6 x2) fun v18 =>
        bnd (F.ge v18 4294967296) fun v19 =>
        bite v19 (
          some (x0, (x1, (x4, (x5, (x7, (v17, ()))))))) (
          bits_Div64_l2 fl n x0 x1 x2 x3 x4 x5 v18 x7 v17)) (
        some (x0, (x1, (x4, (x5, (x7, (x8, ()))))))))

/-- math/bits.Div64 -/
def bits_Div64 (fl : Nat) (x0 : Int) (x1 : Int) (x2 : Int) : Option (Int × Int) :=
  bnd (F.eq x2 0) fun v3 =>
  bite v3 (
    none) (
    bnd (F.le x2 x0) fun v4 =>
    bite v4 (
      none) (
      bnd (F.eq x0 0) fun v5 =>
      bite v5 (
        bgd (F.nonzero x2) (
          bnd (F.quo .u64 x1 x2) fun v6 =>
          bgd (F.nonzero x2) (
            bnd (F.rem x1 x2) fun v7 =>
            some (v6, v7)))) (
        obind (bits_LeadingZeros64 x2) fun q8 =>
        bnd (F.conv .u64 q8) fun v9 =>
        bgd (F.nonneg v9) (
          bnd (F.shl .u64 x2 v9) fun v10 =>
          bnd (F.shr .u64 v10 32) fun v11 =>
          bnd (F.and .u64 v10 4294967295) fun v12 =>
          bgd (F.nonneg v9) (
            bnd (F.shl .u64 x0 v9) fun v13 =>
            bnd (F.sub .u64 64 v9) fun v14 =>
            bgd (F.nonneg v14) (
              bnd (F.shr .u64 x1 v14) fun v15 =>
              bnd (F.or .u64 v13 v15) fun v16 =>
              bgd (F.nonneg v9) (
                bnd (F.shl .u64 x1 v9) fun v17 =>
                bnd (F.shr .u64 v17 32) fun v18 =>
                bnd (F.and .u64 v17 4294967295) fun v19 =>
                bgd (F.nonzero v11) (
                  bnd (F.quo .u64 v16 v11) fun v20 =>
                  bnd (F.mul .u64 v20 v11) fun v21 =>
                  bnd (F.sub .u64 v16 v21) fun v22 =>
                  obind (bits_Div64_l1 fl fl v10 v9 v11 v12 v16 v18 v19 v20 v22) fun q23 =>
                  bnd (F.mul .u64 q23.2.2.2.2.1 4294967296) fun v24 =>
                  bnd (F.add .u64 v24 q23.2.2.2.2.2.1) fun v25 =>
                  bnd (F.mul .u64 q23.2.2.2.2.2.2.2.1 q23.1) fun v26 =>
                  bnd (F.sub .u64 v25 v26) fun v27 =>
                  bgd (F.nonzero q23.2.2.1) (
                    bnd (F.quo .u64 v27 q23.2.2.1) fun v28 =>
                    bnd (F.mul .u64 v28 q23.2.2.1) fun v29 =>
                    bnd (F.sub .u64 v27 v29) fun v30 =>
                    obind (bits_Div64_l2 fl fl q23.1 q23.2.1 q23.2.2.1 q23.2.2.2.1 q23.2.2.2.2.2.2.1 q23.2.2.2.2.2.2.2.1 v30 v27 v28) fun q31 =>
                    bnd (F.mul .u64 q31.2.2.2.1 4294967296) fun v32 =>
                    bnd (F.add .u64 v32 q31.2.2.2.2.2.1) fun v33 =>
                    bnd (F.mul .u64 q31.2.2.2.2.1 4294967296) fun v34 =>
                    bnd (F.add .u64 v34 q31.2.2.1) fun v35 =>
                    bnd (F.mul .u64 q31.2.2.2.2.2.1 q31.1) fun v36 =>
                    bnd (F.sub .u64 v35 v36) fun v37 =>
                    bgd (F.nonneg q31.2.1) (
                      bnd (F.shr .u64 v37 q31.2.1) fun v38 =>
                      some (v33, v38)))))))))))

/-- glazier/fixed.checked -/
def fixed_checked (x0 : Int) (x1 : Bool) : Option (Int × Int) :=
  bnd (F.not x1) fun v2 =>
  bite v2 (
    some (0, 2)) (
    some (x0, 0))

/-- glazier/fixed.signed -/
def fixed_signed (x0 : Int) (x1 : Bool) : Option (Int × Int) :=
  bite x1 (
    bnd (F.neg .u64 x0) fun v2 =>
    bnd (F.conv .i64 v2) fun v3 =>
    bnd (F.le x0 9223372036854775808) fun v4 =>
    obind (fixed_checked v3 v4) fun q5 =>
    some q5) (
    bnd (F.conv .i64 x0) fun v6 =>
    bnd (F.le x0 9223372036854775807) fun v7 =>
    obind (fixed_checked v6 v7) fun q8 =>
    some q8)

/-- glazier/fixed.MulDiv -/
def fixed_MulDiv (fl : Nat) (x0 : Int) (x1 : Int) (x2 : Int) : Option (Int × Int) :=
  bnd (F.eq x2 0) fun v3 =>
  bite v3 (
    some (0, 3)) (
    obind (fixed_size x0) fun q4 =>
    obind (fixed_size x1) fun q5 =>
    obind (bits_Mul64 q4 q5) fun q6 =>
    obind (fixed_size x2) fun q7 =>
    bnd (F.ge q6.1 q7) fun v8 =>
    bite v8 (
      some (0, 2)) (
      obind (bits_Div64 fl q6.1 q6.2 q7) fun q9 =>
      bnd (F.lt x0 0) fun v10 =>
      bnd (F.lt x1 0) fun v11 =>
      bnd (F.bne v10 v11) fun v12 =>
      bnd (F.lt x2 0) fun v13 =>
      bnd (F.bne v12 v13) fun v14 =>
      bite v14 (
        bnd (F.gt q9.2 0) fun v15 =>
        bite v15 (
          bnd (F.add .u64 q9.1 1) fun v16 =>
          bnd (F.eq v16 0) fun v17 =>
          bite v17 (
            some (0, 2)) (
            obind (fixed_signed v16 v14) fun q18 =>
            some q18)) (
          obind (fixed_signed q9.1 v14) fun q19 =>
          some q19)) (
        obind (fixed_signed q9.1 v14) fun q20 =>
        some q20)))

/-- glazier/plane.At -/
def plane_At (fl : Nat) (x0 : (Int × Int × Int × Int × Int × Int × Int) × (Int × Int × Int × Int × Int × Int × Int) × Int × Int × Int × Int × Int × Int × Int) (x1 : Int × Int × Int) (x2 : Int) (x3 : Int) : Option (Int) :=
  obind (edge_Area x0) fun q4 =>
  bnd (F.le q4 0) fun v5 =>
  bite v5 (
    some 0) (
    obind (edge_Cross x0.2.1 x0.2.2 x2 x3) fun q6 =>
    obind (fixed_MulDiv fl x1.1 q6 q4) fun q7 =>
    bnd (F.add .i64 0 q7.1) fun v8 =>
    bnd (F.mul .i64 x1.1 q6) fun v9 =>
    bnd (F.mul .i64 q7.1 q4) fun v10 =>
    bnd (F.sub .i64 v9 v10) fun v11 =>
    bnd (F.add .i64 0 v11) fun v12 =>
    obind (edge_Cross x0.2.2 x0.1 x2 x3) fun q13 =>
    obind (fixed_MulDiv fl x1.2.1 q13 q4) fun q14 =>
    bnd (F.add .i64 v8 q14.1) fun v15 =>
    bnd (F.mul .i64 x1.2.1 q13) fun v16 =>
    bnd (F.mul .i64 q14.1 q4) fun v17 =>
    bnd (F.sub .i64 v16 v17) fun v18 =>
    bnd (F.add .i64 v12 v18) fun v19 =>
    obind (edge_Cross x0.1 x0.2.1 x2 x3) fun q20 =>
    obind (fixed_MulDiv fl x1.2.2 q20 q4) fun q21 =>
    bnd (F.add .i64 v15 q21.1) fun v22 =>
    bnd (F.mul .i64 x1.2.2 q20) fun v23 =>
    bnd (F.mul .i64 q21.1 q4) fun v24 =>
    bnd (F.sub .i64 v23 v24) fun v25 =>
    bnd (F.add .i64 v19 v25) fun v26 =>
    bgd (F.nonzero q4) (
      bnd (F.quo .i64 v26 q4) fun v27 =>
      bnd (F.add .i64 v22 v27) fun v28 =>
      some v28))

/-- glazier/glazierlaw09.shown -/
def glazierlaw09_shown (fl : Nat)  : Option (Bool) :=
  obind (plane_At fl ((0, (0, (0, (0, (0, (0, 0)))))), ((16, (0, (0, (0, (0, (0, 0)))))), (0, (16, (0, (0, (0, (0, 0)))))))) (0, (16, 32)) 8 4) fun q0 =>
  bnd (F.eq q0 16) fun v1 =>
  some v1

/-- glazier/glazierref07.Small -/
def glazierref07_Small (x0 : Int × Int × Int × Int × Int × Int × Int) : Option (Int × Int × Int × Int × Int × Int × Int) :=
  bnd (F.rem x0.1 16385) fun v1 =>
  bnd (F.rem x0.2.1 16385) fun v2 =>
  bnd (F.rem x0.2.2.1 1073741825) fun v3 =>
  bnd (F.rem x0.2.2.2.1 4097) fun v4 =>
  bnd (F.rem x0.2.2.2.2.1 4097) fun v5 =>
  bnd (F.rem x0.2.2.2.2.2.1 4097) fun v6 =>
  bnd (F.rem x0.2.2.2.2.2.2 4097) fun v7 =>
  some (v1, (v2, (v3, (v4, (v5, (v6, v7))))))

/-- glazier/glazierref07.Three -/
def glazierref07_Three (x0 : (Int × Int × Int × Int × Int × Int × Int) × (Int × Int × Int × Int × Int × Int × Int) × Int × Int × Int × Int × Int × Int × Int) : Option ((Int × Int × Int × Int × Int × Int × Int) × (Int × Int × Int × Int × Int × Int × Int) × Int × Int × Int × Int × Int × Int × Int) :=
  obind (glazierref07_Small x0.1) fun q1 =>
  obind (glazierref07_Small x0.2.1) fun q2 =>
  obind (glazierref07_Small x0.2.2) fun q3 =>
  some (q1, (q2, q3))

/-- glazier/glazierref07.Cross -/
def glazierref07_Cross (x0 : Int × Int × Int × Int × Int × Int × Int) (x1 : Int × Int × Int × Int × Int × Int × Int) (x2 : Int) (x3 : Int) : Option (Int) :=
  bnd (F.sub .i64 x1.1 x0.1) fun v4 =>
  bnd (F.sub .i64 x3 x0.2.1) fun v5 =>
  bnd (F.mul .i64 v4 v5) fun v6 =>
  bnd (F.sub .i64 x1.2.1 x0.2.1) fun v7 =>
  bnd (F.sub .i64 x2 x0.1) fun v8 =>
  bnd (F.mul .i64 v7 v8) fun v9 =>
  bnd (F.sub .i64 v6 v9) fun v10 =>
  some v10

/-- glazier/glazierref07.Area -/
def glazierref07_Area (x0 : (Int × Int × Int × Int × Int × Int × Int) × (Int × Int × Int × Int × Int × Int × Int) × Int × Int × Int × Int × Int × Int × Int) : Option (Int) :=
  obind (glazierref07_Cross x0.1 x0.2.1 x0.2.2.1 x0.2.2.2.1) fun q1 =>
  some q1

/-- glazier/glazierref07.Turned -/
def glazierref07_Turned (x0 : (Int × Int × Int × Int × Int × Int × Int) × (Int × Int × Int × Int × Int × Int × Int) × Int × Int × Int × Int × Int × Int × Int) : Option (((Int × Int × Int × Int × Int × Int × Int) × (Int × Int × Int × Int × Int × Int × Int) × Int × Int × Int × Int × Int × Int × Int) × Bool) :=
  obind (glazierref07_Area x0) fun q1 =>
  bnd (F.eq q1 0) fun v2 =>
  bite v2 (
    some (((0, (0, (0, (0, (0, (0, 0)))))), ((0, (0, (0, (0, (0, (0, 0)))))), (0, (0, (0, (0, (0, (0, 0)))))))), false)) (
    bnd (F.lt q1 0) fun v3 =>
    bite v3 (
      some ((x0.1, (x0.2.2, x0.2.1)), true)) (
      some (x0, true)))

/-- glazier/glazierlaw09.small -/
def glazierlaw09_small (x0 : Int × Int × Int) : Option (Int × Int × Int) :=
  bnd (F.rem x0.1 1073741825) fun v1 =>
  bnd (F.rem x0.2.1 1073741825) fun v2 =>
  bnd (F.rem x0.2.2 1073741825) fun v3 =>
  some (v1, (v2, v3))

/-- glazier/glazierref07.First -/
def glazierref07_First (x0 : Int × Int × Int × Int × Int × Int × Int) (x1 : Int × Int × Int × Int × Int × Int × Int) : Option (Bool) :=
  bnd (F.lt x1.2.1 x0.2.1) fun v2 =>
  bite v2 (
    some true) (
    bnd (F.eq x1.2.1 x0.2.1) fun v3 =>
    bite v3 (
      bnd (F.gt x1.1 x0.1) fun v4 =>
      some v4) (
      some false))

/-- glazier/glazierref07.In -/
def glazierref07_In (x0 : (Int × Int × Int × Int × Int × Int × Int) × (Int × Int × Int × Int × Int × Int × Int) × Int × Int × Int × Int × Int × Int × Int) (x1 : Int) (x2 : Int) : Option (Bool) :=
  obind (glazierref07_Area x0) fun q3 =>
  bnd (F.le q3 0) fun v4 =>
  bite v4 (
    some false) (
    obind (glazierref07_Cross x0.1 x0.2.1 x1 x2) fun q5 =>
    obind (glazierref07_First x0.1 x0.2.1) fun q6 =>
    bnd (F.lt q5 0) fun v7 =>
    bite v7 (
      some false) (
      bnd (F.eq q5 0) fun v8 =>
      bite v8 (
        bnd (F.not q6) fun v9 =>
        bite v9 (
          some false) (
          obind (glazierref07_Cross x0.2.1 x0.2.2 x1 x2) fun q10 =>
          obind (glazierref07_First x0.2.1 x0.2.2) fun q11 =>
          bnd (F.lt q10 0) fun v12 =>
          bite v12 (
            some false) (
            bnd (F.eq q10 0) fun v13 =>
            bite v13 (
              bnd (F.not q11) fun v14 =>
              bite v14 (
                some false) (
                obind (glazierref07_Cross x0.2.2 x0.1 x1 x2) fun q15 =>
                obind (glazierref07_First x0.2.2 x0.1) fun q16 =>
                bnd (F.lt q15 0) fun v17 =>
                bite v17 (
                  some false) (
                  bnd (F.eq q15 0) fun v18 =>
                  bite v18 (
                    bnd (F.not q16) fun v19 =>
                    bite v19 (
                      some false) (
                      some true)) (
                    some true)))) (
              obind (glazierref07_Cross x0.2.2 x0.1 x1 x2) fun q20 =>
              obind (glazierref07_First x0.2.2 x0.1) fun q21 =>
              bnd (F.lt q20 0) fun v22 =>
              bite v22 (
                some false) (
                bnd (F.eq q20 0) fun v23 =>
                bite v23 (
                  bnd (F.not q21) fun v24 =>
                  bite v24 (
                    some false) (
                    some true)) (
                  some true)))))) (
        obind (glazierref07_Cross x0.2.1 x0.2.2 x1 x2) fun q25 =>
        obind (glazierref07_First x0.2.1 x0.2.2) fun q26 =>
        bnd (F.lt q25 0) fun v27 =>
        bite v27 (
          some false) (
          bnd (F.eq q25 0) fun v28 =>
          bite v28 (
            bnd (F.not q26) fun v29 =>
            bite v29 (
              some false) (
              obind (glazierref07_Cross x0.2.2 x0.1 x1 x2) fun q30 =>
              obind (glazierref07_First x0.2.2 x0.1) fun q31 =>
              bnd (F.lt q30 0) fun v32 =>
              bite v32 (
                some false) (
                bnd (F.eq q30 0) fun v33 =>
                bite v33 (
                  bnd (F.not q31) fun v34 =>
                  bite v34 (
                    some false) (
                    some true)) (
                  some true)))) (
            obind (glazierref07_Cross x0.2.2 x0.1 x1 x2) fun q35 =>
            obind (glazierref07_First x0.2.2 x0.1) fun q36 =>
            bnd (F.lt q35 0) fun v37 =>
            bite v37 (
              some false) (
              bnd (F.eq q35 0) fun v38 =>
              bite v38 (
                bnd (F.not q36) fun v39 =>
                bite v39 (
                  some false) (
                  some true)) (
                some true)))))))

/-- glazier/glazierlaw09.PlaneWithin -/
def glazierlaw09_PlaneWithin (fl : Nat) (x0 : (Int × Int × Int × Int × Int × Int × Int) × (Int × Int × Int × Int × Int × Int × Int) × Int × Int × Int × Int × Int × Int × Int) (x1 : Int × Int × Int) (x2 : Int × Int) : Option (Bool) :=
  obind (glazierlaw09_shown fl) fun q3 =>
  obind (glazierref07_Three x0) fun q4 =>
  obind (glazierref07_Turned q4) fun q5 =>
  obind (glazierlaw09_small x1) fun q6 =>
  bnd (F.rem x2.1 16385) fun v7 =>
  bnd (F.rem x2.2 16385) fun v8 =>
  bnd (F.not q5.2) fun v9 =>
  bite v9 (
    some q3) (
    obind (plane_At fl q5.1 q6 v7 v8) fun q10 =>
    bnd (F.add .i64 q6.1 1) fun v11 =>
    bnd (F.add .i64 q6.2.1 1) fun v12 =>
    bnd (F.add .i64 q6.2.2 1) fun v13 =>
    obind (plane_At fl q5.1 (v11, (v12, v13)) v7 v8) fun q14 =>
    obind (glazierref07_In q5.1 v7 v8) fun q15 =>
    bite q3 (
      bnd (F.add .i64 q10 1) fun v16 =>
      bnd (F.eq q14 v16) fun v17 =>
      bite v17 (
        bnd (F.not q15) fun v18 =>
        bite v18 (
          some true) (
          bnd (F.min (F.min q6.1 q6.2.1) q6.2.2) fun v19 =>
          bnd (F.ge q10 v19) fun v20 =>
          bite v20 (
            bnd (F.max (F.max q6.1 q6.2.1) q6.2.2) fun v21 =>
            bnd (F.le q10 v21) fun v22 =>
            some v22) (
            some false))) (
        some false)) (
      some false))

/-- glazier/glazierlaw09.PlaneSums -/
def glazierlaw09_PlaneSums (fl : Nat) (x0 : (Int × Int × Int × Int × Int × Int × Int) × (Int × Int × Int × Int × Int × Int × Int) × Int × Int × Int × Int × Int × Int × Int) (x1 : (Int × Int × Int) × Int × Int × Int) (x2 : Int × Int) : Option (Bool) :=
  obind (glazierlaw09_shown fl) fun q3 =>
  obind (glazierref07_Three x0) fun q4 =>
  obind (glazierref07_Turned q4) fun q5 =>
  bnd (F.rem x2.1 16385) fun v6 =>
  bnd (F.rem x2.2 16385) fun v7 =>
  bnd (F.not q5.2) fun v8 =>
  bite v8 (
    some q3) (
    bnd (F.rem x1.1.1 536870912) fun v9 =>
    bnd (F.rem x1.2.1 536870912) fun v10 =>
    bnd (F.add .i64 v9 v10) fun v11 =>
    bnd (F.rem x1.1.2.1 536870912) fun v12 =>
    bnd (F.rem x1.2.2.1 536870912) fun v13 =>
    bnd (F.add .i64 v12 v13) fun v14 =>
    bnd (F.rem x1.1.2.2 536870912) fun v15 =>
    bnd (F.rem x1.2.2.2 536870912) fun v16 =>
    bnd (F.add .i64 v15 v16) fun v17 =>
    obind (plane_At fl q5.1 (v11, (v14, v17)) v6 v7) fun q18 =>
    obind (plane_At fl q5.1 (v9, (v12, v15)) v6 v7) fun q19 =>
    bnd (F.sub .i64 q18 q19) fun v20 =>
    obind (plane_At fl q5.1 (v10, (v13, v16)) v6 v7) fun q21 =>
    bnd (F.sub .i64 v20 q21) fun v22 =>
    obind (glazierref07_Area q5.1) fun q23 =>
    bnd (F.ge q23 1073741824) fun v24 =>
    bite v24 (
      bite q3 (
        bnd (F.eq v22 0) fun v25 =>
        bite v25 (
          some true) (
          bnd (F.eq v22 1) fun v26 =>
          some v26)) (
        some false)) (
      bite q3 (
        bnd (F.eq v22 0) fun v27 =>
        bite v27 (
          obind (plane_At fl q5.1 (0, (0, q23)) v6 v7) fun q28 =>
          obind (glazierref07_Cross q5.1.1 q5.1.2.1 v6 v7) fun q29 =>
          bnd (F.eq q28 q29) fun v30 =>
          some v30) (
          bnd (F.eq v22 1) fun v31 =>
          bite v31 (
            obind (plane_At fl q5.1 (0, (0, q23)) v6 v7) fun q32 =>
            obind (glazierref07_Cross q5.1.1 q5.1.2.1 v6 v7) fun q33 =>
            bnd (F.eq q32 q33) fun v34 =>
            some v34) (
            some false))) (
        some false)))

/-- glazier/plane.Depth$1 -/
def plane_Depth_1 (x0 : Int × Int × Int × Int × Int × Int × Int) : Option (Int) :=
  some x0.2.2.1

/-- glazier/view.Centre -/
def view_Centre (x0 : Int) : Option (Int) :=
  bnd (F.mul .i64 16 x0) fun v1 =>
  bnd (F.add .i64 v1 8) fun v2 =>
  some v2

/-- glazier/plane.each -/
def plane_each (fl : Nat) (x0 : (Int × Int × Int × Int × Int × Int × Int) × (Int × Int × Int × Int × Int × Int × Int) × Int × Int × Int × Int × Int × Int × Int) (x1 : Int) (x2 : Int) (x3 : Unit) : Option (Int) :=
  obind (plane_Depth_1 x0.1) fun q4 =>
  obind (plane_Depth_1 x0.2.1) fun q5 =>
  obind (plane_Depth_1 x0.2.2) fun q6 =>
  obind (view_Centre x1) fun q7 =>
  obind (view_Centre x2) fun q8 =>
  obind (plane_At fl x0 (q4, (q5, q6)) q7 q8) fun q9 =>
  some q9

/-- glazier/plane.Depth -/
def plane_Depth (fl : Nat) (x0 : (Int × Int × Int × Int × Int × Int × Int) × (Int × Int × Int × Int × Int × Int × Int) × Int × Int × Int × Int × Int × Int × Int) (x1 : Int) (x2 : Int) : Option (Int) :=
  obind (edge_Area x0) fun q3 =>
  bnd (F.le q3 0) fun v4 =>
  bite v4 (
    some 0) (
    obind (plane_each fl x0 x1 x2 ()) fun q5 =>
    bnd (F.min (F.min x0.1.2.2.1 x0.2.1.2.2.1) x0.2.2.2.2.1) fun v6 =>
    bnd (F.max q5 v6) fun v7 =>
    bnd (F.max (F.max x0.1.2.2.1 x0.2.1.2.2.1) x0.2.2.2.2.1) fun v8 =>
    bnd (F.min v7 v8) fun v9 =>
    some v9)

/-- glazier/glazierlaw09.PlanePoints -/
def glazierlaw09_PlanePoints (fl : Nat) (x0 : (Int × Int × Int × Int × Int × Int × Int) × (Int × Int × Int × Int × Int × Int × Int) × Int × Int × Int × Int × Int × Int × Int) (x1 : Int × Int × Int) (x2 : Int × Int) : Option (Bool) :=
  obind (glazierlaw09_shown fl) fun q3 =>
  obind (glazierref07_Three x0) fun q4 =>
  obind (glazierlaw09_small x1) fun q5 =>
  bnd (F.rem x2.1 16385) fun v6 =>
  bnd (F.rem x2.2 16385) fun v7 =>
  obind (glazierref07_Area q4) fun q8 =>
  bnd (F.le q8 0) fun v9 =>
  bite v9 (
    bite q3 (
      obind (plane_At fl q4 q5 v6 v7) fun q10 =>
      bnd (F.eq q10 0) fun v11 =>
      bite v11 (
        obind (plane_Depth fl q4 3 4) fun q12 =>
        bnd (F.eq q12 0) fun v13 =>
        some v13) (
        some false)) (
      some false)) (
    obind (plane_At fl q4 q5 q4.1.1 q4.1.2.1) fun q14 =>
    bnd (F.ne q14 q5.1) fun v15 =>
    bite v15 (
      some false) (
      obind (plane_At fl q4 q5 q4.2.1.1 q4.2.1.2.1) fun q16 =>
      bnd (F.ne q16 q5.2.1) fun v17 =>
      bite v17 (
        some false) (
        obind (plane_At fl q4 q5 q4.2.2.1 q4.2.2.2.1) fun q18 =>
        bnd (F.ne q18 q5.2.2) fun v19 =>
        bite v19 (
          some false) (
          bite q3 (
            obind (plane_At fl q4 (q5.1, (q5.1, q5.1)) v6 v7) fun q20 =>
            bnd (F.eq q20 q5.1) fun v21 =>
            some v21) (
            some false)))))

/-- glazier/glazierlaw09.PlaneHeld -/
def glazierlaw09_PlaneHeld (fl : Nat) (x0 : (Int × Int × Int × Int × Int × Int × Int) × (Int × Int × Int × Int × Int × Int × Int) × Int × Int × Int × Int × Int × Int × Int) (x1 : Int × Int) : Option (Bool) :=
  obind (glazierlaw09_shown fl) fun q2 =>
  obind (glazierref07_Three x0) fun q3 =>
  obind (glazierref07_Turned q3) fun q4 =>
  bnd (F.rem x1.1 513) fun v5 =>
  bnd (F.rem x1.2 513) fun v6 =>
  bnd (F.not q4.2) fun v7 =>
  bite v7 (
    some q2) (
    obind (plane_Depth fl q4.1 v5 v6) fun q8 =>
    bnd (F.mul .i64 16 v5) fun v9 =>
    bnd (F.add .i64 v9 8) fun v10 =>
    bnd (F.mul .i64 16 v6) fun v11 =>
    bnd (F.add .i64 v11 8) fun v12 =>
    obind (glazierref07_In q4.1 v10 v12) fun q13 =>
    bnd (F.mul .i64 16 v5) fun v14 =>
    bnd (F.add .i64 v14 8) fun v15 =>
    bnd (F.mul .i64 16 v6) fun v16 =>
    bnd (F.add .i64 v16 8) fun v17 =>
    obind (plane_At fl q4.1 (q4.1.1.2.2.1, (q4.1.2.1.2.2.1, q4.1.2.2.2.2.1)) v15 v17) fun q18 =>
    bite q2 (
      bnd (F.min (F.min q4.1.1.2.2.1 q4.1.2.1.2.2.1) q4.1.2.2.2.2.1) fun v19 =>
      bnd (F.ge q8 v19) fun v20 =>
      bite v20 (
        bnd (F.max (F.max q4.1.1.2.2.1 q4.1.2.1.2.2.1) q4.1.2.2.2.2.1) fun v21 =>
        bnd (F.le q8 v21) fun v22 =>
        bite v22 (
          bnd (F.not q13) fun v23 =>
          bite v23 (
            obind (plane_Depth fl (q4.1.1, ((q4.1.2.1.1, (q4.1.2.1.2.1, (q4.1.1.2.2.1, q4.1.2.1.2.2.2))), (q4.1.2.2.1, (q4.1.2.2.2.1, (q4.1.1.2.2.1, q4.1.2.2.2.2.2))))) v5 v6) fun q24 =>
            bnd (F.eq q24 q4.1.1.2.2.1) fun v25 =>
            some v25) (
            bnd (F.eq q8 q18) fun v26 =>
            bite v26 (
              obind (plane_Depth fl (q4.1.1, ((q4.1.2.1.1, (q4.1.2.1.2.1, (q4.1.1.2.2.1, q4.1.2.1.2.2.2))), (q4.1.2.2.1, (q4.1.2.2.2.1, (q4.1.1.2.2.1, q4.1.2.2.2.2.2))))) v5 v6) fun q27 =>
              bnd (F.eq q27 q4.1.1.2.2.1) fun v28 =>
              some v28) (
              some false))) (
          some false)) (
        some false)) (
      some false))

/-- glazier/plane.Attrs$1 -/
def plane_Attrs_1 (x0 : Int × Int × Int × Int × Int × Int × Int) (x1 : Int) : Option (Int) :=
  bgd (F.within x1 4) (
    obind (F.get [x0.2.2.2.1, x0.2.2.2.2.1, x0.2.2.2.2.2.1, x0.2.2.2.2.2.2] x1) fun q2 =>
    some q2)

/-- glazier/plane.each -/
def plane_each__2 (fl : Nat) (x0 : (Int × Int × Int × Int × Int × Int × Int) × (Int × Int × Int × Int × Int × Int × Int) × Int × Int × Int × Int × Int × Int × Int) (x1 : Int) (x2 : Int) (x3 : Int) : Option (Int) :=
  obind (plane_Attrs_1 x0.1 x3) fun q4 =>
  obind (plane_Attrs_1 x0.2.1 x3) fun q5 =>
  obind (plane_Attrs_1 x0.2.2 x3) fun q6 =>
  obind (view_Centre x1) fun q7 =>
  obind (view_Centre x2) fun q8 =>
  obind (plane_At fl x0 (q4, (q5, q6)) q7 q8) fun q9 =>
  some q9

/-- glazier/plane.Attrs -/
def plane_Attrs (fl : Nat) (x0 : (Int × Int × Int × Int × Int × Int × Int) × (Int × Int × Int × Int × Int × Int × Int) × Int × Int × Int × Int × Int × Int × Int) (x1 : Int) (x2 : Int) : Option (Int × Int × Int × Int) :=
  obind (plane_each__2 fl x0 x1 x2 0) fun q3 =>
  obind (plane_each__2 fl x0 x1 x2 1) fun q4 =>
  obind (plane_each__2 fl x0 x1 x2 2) fun q5 =>
  obind (plane_each__2 fl x0 x1 x2 3) fun q6 =>
  some (q3, (q4, (q5, q6)))

/-- glazier/glazierlaw09.PlaneTurns -/
def glazierlaw09_PlaneTurns (fl : Nat) (x0 : (Int × Int × Int × Int × Int × Int × Int) × (Int × Int × Int × Int × Int × Int × Int) × Int × Int × Int × Int × Int × Int × Int) (x1 : Int × Int) : Option (Bool) :=
  obind (glazierlaw09_shown fl) fun q2 =>
  obind (glazierref07_Three x0) fun q3 =>
  bnd (F.rem x1.1 513) fun v4 =>
  bnd (F.rem x1.2 513) fun v5 =>
  bite q2 (
    obind (plane_Depth fl (q3.2.1, (q3.2.2, q3.1)) v4 v5) fun q6 =>
    obind (plane_Depth fl q3 v4 v5) fun q7 =>
    bnd (F.eq q6 q7) fun v8 =>
    bite v8 (
      obind (plane_Attrs fl (q3.2.1, (q3.2.2, q3.1)) v4 v5) fun q9 =>
      obind (plane_Attrs fl q3 v4 v5) fun q10 =>
      bnd (F.both (F.eq q9.1 q10.1) (F.both (F.eq q9.2.1 q10.2.1) (F.both (F.eq q9.2.2.1 q10.2.2.1) (F.eq q9.2.2.2 q10.2.2.2)))) fun v11 =>
      bite v11 (
        obind (plane_Depth fl ((q3.1.1, (q3.1.2.1, (q3.1.2.2.1, (0, (0, (0, 0)))))), ((q3.2.1.1, (q3.2.1.2.1, (q3.2.1.2.2.1, (0, (0, (0, 0)))))), (q3.2.2.1, (q3.2.2.2.1, (q3.2.2.2.2.1, (0, (0, (0, 0)))))))) v4 v5) fun q12 =>
        obind (plane_Depth fl q3 v4 v5) fun q13 =>
        bnd (F.eq q12 q13) fun v14 =>
        bite v14 (
          obind (plane_Attrs fl ((q3.1.1, (q3.1.2.1, (0, q3.1.2.2.2))), ((q3.2.1.1, (q3.2.1.2.1, (0, q3.2.1.2.2.2))), (q3.2.2.1, (q3.2.2.2.1, (0, q3.2.2.2.2.2))))) v4 v5) fun q15 =>
          obind (plane_Attrs fl q3 v4 v5) fun q16 =>
          bnd (F.both (F.eq q15.1 q16.1) (F.both (F.eq q15.2.1 q16.2.1) (F.both (F.eq q15.2.2.1 q16.2.2.1) (F.eq q15.2.2.2 q16.2.2.2)))) fun v17 =>
          bite v17 (
            obind (plane_Depth fl ((q3.1.1, (q3.1.2.1, (0, q3.1.2.2.2))), ((q3.2.1.1, (q3.2.1.2.1, (0, q3.2.1.2.2.2))), (q3.2.2.1, (q3.2.2.2.1, (0, q3.2.2.2.2.2))))) v4 v5) fun q18 =>
            bnd (F.eq q18 0) fun v19 =>
            bite v19 (
              obind (plane_Attrs fl ((q3.1.1, (q3.1.2.1, (q3.1.2.2.1, (0, (0, (0, 0)))))), ((q3.2.1.1, (q3.2.1.2.1, (q3.2.1.2.2.1, (0, (0, (0, 0)))))), (q3.2.2.1, (q3.2.2.2.1, (q3.2.2.2.2.1, (0, (0, (0, 0)))))))) v4 v5) fun q20 =>
              bnd (F.both (F.eq q20.1 0) (F.both (F.eq q20.2.1 0) (F.both (F.eq q20.2.2.1 0) (F.eq q20.2.2.2 0)))) fun v21 =>
              some v21) (
              some false)) (
            some false)) (
          some false)) (
        some false)) (
      some false)) (
    some false)

/-- glazier/glazierref01.size -/
def glazierref01_size (x0 : Int) : Option (Int) :=
  bnd (F.lt x0 0) fun v1 =>
  bite v1 (
    bnd (F.conv .u64 x0) fun v2 =>
    bnd (F.sub .u64 0 v2) fun v3 =>
    some v3) (
    bnd (F.conv .u64 x0) fun v4 =>
    some v4)

def glazierref01_times_l1 (fl : Nat) : Nat → Int → Int → Int → Int → Int → Int → Int → Option (Int × Int × Int × Int × Unit)
  | 0, _, _, _, _, _, _, _ => none
  | n + 1, x0, x1, x2, x3, x4, x5, x6 =>
    bnd (F.ge x6 0) fun v7 =>
    bite v7 (
      bnd (F.mul .u64 x4 2) fun v8 =>
      bnd (F.quo .u64 x5 9223372036854775808) fun v9 =>
      bnd (F.add .u64 v8 v9) fun v10 =>
      bnd (F.mul .u64 x5 2) fun v11 =>
      bgd (F.nonneg x6) (
        bnd (F.shr .u64 x2 x6) fun v12 =>
        bnd (F.rem v12 2) fun v13 =>
        bnd (F.eq v13 1) fun v14 =>
        bite v14 (
          bnd (F.add .u64 v11 x3) fun v15 =>
          bnd (F.lt v15 v11) fun v16 =>
          bite v16 (
            bnd (F.add .u64 v10 1) fun v17 =>
            bnd (F.sub .i64 x6 1) fun v18 =>
            glazierref01_times_l1 fl n x0 x1 x2 x3 v17 v15 v18) (
            bnd (F.sub .i64 x6 1) fun v19 =>
            glazierref01_times_l1 fl n x0 x1 x2 x3 v10 v15 v19)) (
          bnd (F.sub .i64 x6 1) fun v20 =>
          glazierref01_times_l1 fl n x0 x1 x2 x3 v10 v11 v20))) (
      some (x0, (x1, (x4, (x5, ())))))

/-- glazier/glazierref01.times -/
def glazierref01_times (fl : Nat) (x0 : Int) (x1 : Int) : Option (Int × Int × Bool) :=
  obind (glazierref01_size x0) fun q2 =>
  obind (glazierref01_size x1) fun q3 =>
  obind (glazierref01_times_l1 fl fl x0 x1 q2 q3 0 0 63) fun q4 =>
  bnd (F.lt q4.1 0) fun v5 =>
  bnd (F.lt q4.2.1 0) fun v6 =>
  bnd (F.bne v5 v6) fun v7 =>
  bite v7 (
    bnd (F.gt q4.2.2.1 0) fun v8 =>
    bite v8 (
      some (q4.2.2.1, (q4.2.2.2.1, true))) (
      bnd (F.gt q4.2.2.2.1 0) fun v9 =>
      some (q4.2.2.1, (q4.2.2.2.1, v9)))) (
    some (q4.2.2.1, (q4.2.2.2.1, false)))

def glazierref01_parts_l1 (fl : Nat) : Nat → Int → Int → Int → Int → Int → Int → Int → Bool → Option (Int × Int × Int × Unit)
  | 0, _, _, _, _, _, _, _, _ => none
  | n + 1, x0, x1, x2, x3, x4, x5, x6, x7 =>
    bnd (F.ge x4 0) fun v8 =>
    bite v8 (
      bnd (F.gt x4 63) fun v9 =>
      bite v9 (
        bnd (F.sub .i64 x4 64) fun v10 =>
        bgd (F.nonneg v10) (
          bnd (F.shr .u64 x5 v10) fun v11 =>
          bnd (F.rem v11 2) fun v12 =>
          bnd (F.ge x3 9223372036854775808) fun v13 =>
          bnd (F.mul .u64 x3 2) fun v14 =>
          bnd (F.add .u64 v14 v12) fun v15 =>
          bnd (F.mul .u64 x1 2) fun v16 =>
          bnd (F.quo .u64 x2 9223372036854775808) fun v17 =>
          bnd (F.add .u64 v16 v17) fun v18 =>
          bnd (F.mul .u64 x2 2) fun v19 =>
          bite v13 (
            bnd (F.sub .u64 v15 x0) fun v20 =>
            bnd (F.add .u64 v19 1) fun v21 =>
            bnd (F.sub .i64 x4 1) fun v22 =>
            glazierref01_parts_l1 fl n x0 v18 v21 v20 v22 x5 x6 x7) (
            bnd (F.ge v15 x0) fun v23 =>
            bite v23 (
              bnd (F.sub .u64 v15 x0) fun v24 =>
              bnd (F.add .u64 v19 1) fun v25 =>
              bnd (F.sub .i64 x4 1) fun v26 =>
              glazierref01_parts_l1 fl n x0 v18 v25 v24 v26 x5 x6 x7) (
              bnd (F.sub .i64 x4 1) fun v27 =>
              glazierref01_parts_l1 fl n x0 v18 v19 v15 v27 x5 x6 x7)))) (
        bgd (F.nonneg x4) (
          bnd (F.shr .u64 x6 x4) fun v28 =>
          bnd (F.rem v28 2) fun v29 =>
          bnd (F.ge x3 9223372036854775808) fun v30 =>
          bnd (F.mul .u64 x3 2) fun v31 =>
          bnd (F.add .u64 v31 v29) fun v32 =>
          bnd (F.mul .u64 x1 2) fun v33 =>
          bnd (F.quo .u64 x2 9223372036854775808) fun v34 =>
          bnd (F.add .u64 v33 v34) fun v35 =>
          bnd (F.mul .u64 x2 2) fun v36 =>
          bite v30 (
            bnd (F.sub .u64 v32 x0) fun v37 =>
            bnd (F.add .u64 v36 1) fun v38 =>
            bnd (F.sub .i64 x4 1) fun v39 =>
            glazierref01_parts_l1 fl n x0 v35 v38 v37 v39 x5 x6 x7) (
            bnd (F.ge v32 x0) fun v40 =>
            bite v40 (
              bnd (F.sub .u64 v32 x0) fun v41 =>
              bnd (F.add .u64 v36 1) fun v42 =>
              bnd (F.sub .i64 x4 1) fun v43 =>
              glazierref01_parts_l1 fl n x0 v35 v42 v41 v43 x5 x6 x7) (
              bnd (F.sub .i64 x4 1) fun v44 =>
              glazierref01_parts_l1 fl n x0 v35 v36 v32 v44 x5 x6 x7))))) (
      some (x1, (x2, (x3, ()))))

/-- glazier/glazierref01.parts -/
def glazierref01_parts (fl : Nat) (x0 : Int × Int × Bool) (x1 : Int) : Option (Int × Int × Int) :=
  obind (glazierref01_parts_l1 fl fl x1 0 0 0 127 x0.1 x0.2.1 x0.2.2) fun q2 =>
  some (q2.1, (q2.2.1, q2.2.2.1))

/-- glazier/glazierref01.told -/
def glazierref01_told (x0 : Int) (x1 : Int) (x2 : Bool) : Option (Int × Int) :=
  bite x2 (
    bnd (F.gt x0 0) fun v3 =>
    bite v3 (
      some (0, 2)) (
      bnd (F.gt x1 9223372036854775808) fun v4 =>
      bite v4 (
        some (0, 2)) (
        bite x2 (
          bnd (F.sub .u64 0 x1) fun v5 =>
          bnd (F.conv .i64 v5) fun v6 =>
          some (v6, 0)) (
          bnd (F.conv .i64 x1) fun v7 =>
          some (v7, 0))))) (
    bnd (F.gt x0 0) fun v8 =>
    bite v8 (
      some (0, 2)) (
      bnd (F.gt x1 9223372036854775807) fun v9 =>
      bite v9 (
        some (0, 2)) (
        bite x2 (
          bnd (F.sub .u64 0 x1) fun v10 =>
          bnd (F.conv .i64 v10) fun v11 =>
          some (v11, 0)) (
          bnd (F.conv .i64 x1) fun v12 =>
          some (v12, 0)))))

/-- glazier/glazierref01.MulDiv -/
def glazierref01_MulDiv (fl : Nat) (x0 : Int) (x1 : Int) (x2 : Int) : Option (Int × Int) :=
  bnd (F.eq x2 0) fun v3 =>
  bite v3 (
    some (0, 3)) (
    obind (glazierref01_times fl x0 x1) fun q4 =>
    bnd (F.lt x2 0) fun v5 =>
    bnd (F.bne q4.2.2 v5) fun v6 =>
    bite v6 (
      bnd (F.gt q4.1 0) fun v7 =>
      bite v7 (
        obind (glazierref01_size x2) fun q8 =>
        obind (glazierref01_parts fl q4 q8) fun q9 =>
        bnd (F.gt q9.2.2 0) fun v10 =>
        bite v10 (
          bnd (F.add .u64 q9.2.1 1) fun v11 =>
          bnd (F.eq v11 0) fun v12 =>
          bite v12 (
            bnd (F.add .u64 q9.1 1) fun v13 =>
            obind (glazierref01_told v13 v11 true) fun q14 =>
            some q14) (
            obind (glazierref01_told q9.1 v11 true) fun q15 =>
            some q15)) (
          obind (glazierref01_told q9.1 q9.2.1 true) fun q16 =>
          some q16)) (
        bnd (F.gt q4.2.1 0) fun v17 =>
        obind (glazierref01_size x2) fun q18 =>
        obind (glazierref01_parts fl q4 q18) fun q19 =>
        bite v17 (
          bnd (F.gt q19.2.2 0) fun v20 =>
          bite v20 (
            bnd (F.add .u64 q19.2.1 1) fun v21 =>
            bnd (F.eq v21 0) fun v22 =>
            bite v22 (
              bnd (F.add .u64 q19.1 1) fun v23 =>
              obind (glazierref01_told v23 v21 v17) fun q24 =>
              some q24) (
              obind (glazierref01_told q19.1 v21 v17) fun q25 =>
              some q25)) (
            obind (glazierref01_told q19.1 q19.2.1 v17) fun q26 =>
            some q26)) (
          obind (glazierref01_told q19.1 q19.2.1 v17) fun q27 =>
          some q27))) (
      obind (glazierref01_size x2) fun q28 =>
      obind (glazierref01_parts fl q4 q28) fun q29 =>
      obind (glazierref01_told q29.1 q29.2.1 false) fun q30 =>
      some q30))

/-- glazier/glazierref01.Floor -/
def glazierref01_Floor (fl : Nat) (x0 : Int) (x1 : Int) : Option (Int × Int) :=
  obind (glazierref01_MulDiv fl x0 1 x1) fun q2 =>
  some q2

/-- glazier/glazierref01.Down -/
def glazierref01_Down (fl : Nat) (x0 : Int) (x1 : Int) : Option (Int) :=
  obind (glazierref01_Floor fl x0 x1) fun q2 =>
  some q2.1

/-- glazier/glazierref09.At -/
def glazierref09_At (fl : Nat) (x0 : (Int × Int × Int × Int × Int × Int × Int) × (Int × Int × Int × Int × Int × Int × Int) × Int × Int × Int × Int × Int × Int × Int) (x1 : Int × Int × Int) (x2 : Int) (x3 : Int) : Option (Int) :=
  obind (glazierref07_Area x0) fun q4 =>
  bnd (F.le q4 0) fun v5 =>
  bite v5 (
    some 0) (
    obind (glazierref07_Cross x0.2.2 x0.1 x2 x3) fun q6 =>
    obind (glazierref07_Cross x0.1 x0.2.1 x2 x3) fun q7 =>
    bnd (F.sub .i64 x1.2.1 x1.1) fun v8 =>
    obind (glazierref01_Down fl q6 q4) fun q9 =>
    bnd (F.mul .i64 q9 q4) fun v10 =>
    bnd (F.sub .i64 q6 v10) fun v11 =>
    bnd (F.mul .i64 v8 q9) fun v12 =>
    bnd (F.add .i64 x1.1 v12) fun v13 =>
    obind (glazierref01_MulDiv fl v8 v11 q4) fun q14 =>
    bnd (F.add .i64 v13 q14.1) fun v15 =>
    bnd (F.mul .i64 v8 v11) fun v16 =>
    bnd (F.add .i64 0 v16) fun v17 =>
    bnd (F.mul .i64 q14.1 q4) fun v18 =>
    bnd (F.sub .i64 v17 v18) fun v19 =>
    bnd (F.sub .i64 x1.2.1 x1.1) fun v20 =>
    bnd (F.sub .i64 x1.2.2 x1.1) fun v21 =>
    obind (glazierref01_Down fl q7 q4) fun q22 =>
    bnd (F.mul .i64 q22 q4) fun v23 =>
    bnd (F.sub .i64 q7 v23) fun v24 =>
    bnd (F.mul .i64 v21 q22) fun v25 =>
    bnd (F.add .i64 v15 v25) fun v26 =>
    obind (glazierref01_MulDiv fl v21 v24 q4) fun q27 =>
    bnd (F.add .i64 v26 q27.1) fun v28 =>
    bnd (F.mul .i64 v21 v24) fun v29 =>
    bnd (F.add .i64 v19 v29) fun v30 =>
    bnd (F.mul .i64 q27.1 q4) fun v31 =>
    bnd (F.sub .i64 v30 v31) fun v32 =>
    bnd (F.ge v32 q4) fun v33 =>
    bite v33 (
      bnd (F.add .i64 v28 1) fun v34 =>
      some v34) (
      some v28))

/-- glazier/glazierref06.Centre -/
def glazierref06_Centre (x0 : Int) : Option (Int) :=
  bnd (F.mul .i64 16 x0) fun v1 =>
  bnd (F.add .i64 v1 8) fun v2 =>
  some v2

/-- glazier/glazierref09.Depth -/
def glazierref09_Depth (fl : Nat) (x0 : (Int × Int × Int × Int × Int × Int × Int) × (Int × Int × Int × Int × Int × Int × Int) × Int × Int × Int × Int × Int × Int × Int) (x1 : Int) (x2 : Int) : Option (Int) :=
  obind (glazierref07_Area x0) fun q3 =>
  bnd (F.le q3 0) fun v4 =>
  bite v4 (
    some 0) (
    obind (glazierref06_Centre x1) fun q5 =>
    obind (glazierref06_Centre x2) fun q6 =>
    obind (glazierref09_At fl x0 (x0.1.2.2.1, (x0.2.1.2.2.1, x0.2.2.2.2.1)) q5 q6) fun q7 =>
    bnd (F.min (F.min x0.1.2.2.1 x0.2.1.2.2.1) x0.2.2.2.2.1) fun v8 =>
    bnd (F.max (F.max x0.1.2.2.1 x0.2.1.2.2.1) x0.2.2.2.2.1) fun v9 =>
    bnd (F.lt q7 v8) fun v10 =>
    bite v10 (
      some v8) (
      bnd (F.gt q7 v9) fun v11 =>
      bite v11 (
        some v9) (
        some q7)))

/-- glazier/glazierref09.Attrs -/
def glazierref09_Attrs (fl : Nat) (x0 : (Int × Int × Int × Int × Int × Int × Int) × (Int × Int × Int × Int × Int × Int × Int) × Int × Int × Int × Int × Int × Int × Int) (x1 : Int) (x2 : Int) : Option (Int × Int × Int × Int) :=
  obind (glazierref06_Centre x1) fun q3 =>
  obind (glazierref06_Centre x2) fun q4 =>
  obind (glazierref09_At fl x0 (x0.1.2.2.2.1, (x0.2.1.2.2.2.1, x0.2.2.2.2.2.1)) q3 q4) fun q5 =>
  obind (glazierref06_Centre x1) fun q6 =>
  obind (glazierref06_Centre x2) fun q7 =>
  obind (glazierref09_At fl x0 (x0.1.2.2.2.2.1, (x0.2.1.2.2.2.2.1, x0.2.2.2.2.2.2.1)) q6 q7) fun q8 =>
  obind (glazierref06_Centre x1) fun q9 =>
  obind (glazierref06_Centre x2) fun q10 =>
  obind (glazierref09_At fl x0 (x0.1.2.2.2.2.2.1, (x0.2.1.2.2.2.2.2.1, x0.2.2.2.2.2.2.2.1)) q9 q10) fun q11 =>
  obind (glazierref06_Centre x1) fun q12 =>
  obind (glazierref06_Centre x2) fun q13 =>
  obind (glazierref09_At fl x0 (x0.1.2.2.2.2.2.2, (x0.2.1.2.2.2.2.2.2, x0.2.2.2.2.2.2.2.2)) q12 q13) fun q14 =>
  some (q5, (q8, (q11, q14)))

/-- glazier/glazierlaw09.PlaneAll -/
def glazierlaw09_PlaneAll (fl : Nat) (x0 : (Int × Int × Int × Int × Int × Int × Int) × (Int × Int × Int × Int × Int × Int × Int) × Int × Int × Int × Int × Int × Int × Int) (x1 : Int × Int × Int) (x2 : Int × Int) : Option (Bool) :=
  obind (glazierlaw09_shown fl) fun q3 =>
  obind (glazierref07_Three x0) fun q4 =>
  obind (glazierlaw09_small x1) fun q5 =>
  bnd (F.rem x2.1 16385) fun v6 =>
  bnd (F.rem x2.2 16385) fun v7 =>
  bnd (F.rem v6 513) fun v8 =>
  bnd (F.rem v7 513) fun v9 =>
  bite q3 (
    obind (plane_At fl q4 q5 v6 v7) fun q10 =>
    obind (glazierref09_At fl q4 q5 v6 v7) fun q11 =>
    bnd (F.eq q10 q11) fun v12 =>
    bite v12 (
      obind (plane_Depth fl q4 v8 v9) fun q13 =>
      obind (glazierref09_Depth fl q4 v8 v9) fun q14 =>
      bnd (F.eq q13 q14) fun v15 =>
      bite v15 (
        obind (plane_Attrs fl q4 v8 v9) fun q16 =>
        obind (glazierref09_Attrs fl q4 v8 v9) fun q17 =>
        bnd (F.both (F.eq q16.1 q17.1) (F.both (F.eq q16.2.1 q17.2.1) (F.both (F.eq q16.2.2.1 q17.2.2.1) (F.eq q16.2.2.2 q17.2.2.2)))) fun v18 =>
        some v18) (
        some false)) (
      some false)) (
    some false)


end Go.Proofs.Ytcgkhlccmfbhnaa.G
