/- Plain functions, printed by program out of the given ones: what each Go function comes to. -/
import Derived.Test.YtjflobchmpmeoaaMchA
set_option linter.unusedVariables false
namespace Go.Proofs.Ytjflobchmpmeoaa.G
open Go Go.Proofs.Ytjflobchmpmeoaa.M

/-- glazier/fixed.size -/
def fixed_size (x0 : Int) : Option (Int) :=
  bnd (F.neg .i64 x0) fun v1 =>
  bnd (F.max x0 v1) fun v2 =>
  bnd (F.conv .u64 v2) fun v3 =>
  some v3

/-- math/bits.Mul64 -/
def bits_Mul64 (x0 : Int) (x1 : Int) : Option (Int × Int) :=
  bnd (F.and .u64 x0 4294967295) fun v2 =>
  bnd (F.shr .u64 x0 32) fun v3 =>
  bnd (F.and .u64 x1 4294967295) fun v4 =>
  bnd (F.shr .u64 x1 32) fun v5 =>
  bnd (F.mul .u64 v2 v4) fun v6 =>
  bnd (F.mul .u64 v3 v4) fun v7 =>
  bnd (F.shr .u64 v6 32) fun v8 =>
  bnd (F.add .u64 v7 v8) fun v9 =>
  bnd (F.and .u64 v9 4294967295) fun v10 =>
  bnd (F.shr .u64 v9 32) fun v11 =>
  bnd (F.mul .u64 v2 v5) fun v12 =>
  bnd (F.add .u64 v10 v12) fun v13 =>
  bnd (F.mul .u64 v3 v5) fun v14 =>
  bnd (F.add .u64 v14 v11) fun v15 =>
  bnd (F.shr .u64 v13 32) fun v16 =>
  bnd (F.add .u64 v15 v16) fun v17 =>
  bnd (F.mul .u64 x0 x1) fun v18 =>
  some (v17, v18)

/-- math/bits.LeadingZeros64 -/
def bits_LeadingZeros64 (x0 : Int) : Option (Int) :=
  none

def bits_Div64_l1 (fl : Nat) : Nat → Int → Int → Int → Int → Int → Int → Int → Int → Int → Option (Int × Int × Int × Int × Int × Int × Int × Int × Int × Unit)
  | 0, _, _, _, _, _, _, _, _, _ => none
  | n + 1, x0, x1, x2, x3, x4, x5, x6, x7, x8 =>
    bnd (F.ge x7 4294967296) fun v9 =>
    bite v9 (
      bnd (F.sub .u64 x7 1) fun v10 =>
      bnd (F.add .u64 x8 x2) fun v11 =>
      bnd (F.ge v11 4294967296) fun v12 =>
      bite v12 (
        some (x0, (x1, (x2, (x3, (x4, (x5, (x6, (v10, (v11, ())))))))))) (
        bits_Div64_l1 fl n x0 x1 x2 x3 x4 x5 x6 v10 v11)) (
      bnd (F.mul .u64 x7 x3) fun v13 =>
      bnd (F.mul .u64 4294967296 x8) fun v14 =>
      bnd (F.add .u64 v14 x5) fun v15 =>
      bnd (F.gt v13 v15) fun v16 =>
      bite v16 (
        bnd (F.sub .u64 x7 1) fun v17 =>
        bnd (F.add .u64 x8 x2) fun v18 =>
        bnd (F.ge v18 4294967296) fun v19 =>
        bite v19 (
          some (x0, (x1, (x2, (x3, (x4, (x5, (x6, (v17, (v18, ())))))))))) (
          bits_Div64_l1 fl n x0 x1 x2 x3 x4 x5 x6 v17 v18)) (
        some (x0, (x1, (x2, (x3, (x4, (x5, (x6, (x7, (x8, ())))))))))))

def bits_Div64_l2 (fl : Nat) : Nat → Int → Int → Int → Int → Int → Int → Int → Int → Int → Option (Int × Int × Int × Int × Int × Int × Unit)
  | 0, _, _, _, _, _, _, _, _, _ => none
  | n + 1, x0, x1, x2, x3, x4, x5, x6, x7, x8 =>
    bnd (F.ge x8 4294967296) fun v9 =>
    bite v9 (
      bnd (F.sub .u64 x8 1) fun v10 =>
      bnd (F.add .u64 x6 x2) fun v11 =>
      bnd (F.ge v11 4294967296) fun v12 =>
      bite v12 (
        some (x0, (x1, (x4, (x5, (x7, (v10, ()))))))) (
        bits_Div64_l2 fl n x0 x1 x2 x3 x4 x5 v11 x7 v10)) (
      bnd (F.mul .u64 x8 x3) fun v13 =>
      bnd (F.mul .u64 4294967296 x6) fun v14 =>
      bnd (F.add .u64 v14 x4) fun v15 =>
      bnd (F.gt v13 v15) fun v16 =>
      bite v16 (
        bnd (F.sub .u64 x8 1) fun v17 =>
        bnd (F.add .u64 x6 x2) fun v18 =>
        bnd (F.ge v18 4294967296) fun v19 =>
        bite v19 (
          some (x0, (x1, (x4, (x5, (x7, (v17, ()))))))) (
          bits_Div64_l2 fl n x0 x1 x2 x3 x4 x5 v18 x7 v17)) (
        some (x0, (x1, (x4, (x5, (x7, (x8, ()))))))))

/-- math/bits.Div64 -/
def bits_Div64 (fl : Nat) (x0 : Int) (x1 : Int) (x2 : Int) : Option (Int × Int) :=
  bnd (F.eq x2 0) fun v3 =>
  bite v3 (
    none) (
    bnd (F.le x2 x0) fun v4 =>
    bite v4 (
      none) (
      bnd (F.eq x0 0) fun v5 =>
      bite v5 (
        bgd (F.nonzero x2) (
          bnd (F.quo .u64 x1 x2) fun v6 =>
          bgd (F.nonzero x2) (
            bnd (F.rem x1 x2) fun v7 =>
            some (v6, v7)))) (
        obind (bits_LeadingZeros64 x2) fun q8 =>
        bnd (F.conv .u64 q8) fun v9 =>
        bgd (F.nonneg v9) (
          bnd (F.shl .u64 x2 v9) fun v10 =>
          bnd (F.shr .u64 v10 32) fun v11 =>
          bnd (F.and .u64 v10 4294967295) fun v12 =>
          bgd (F.nonneg v9) (
            bnd (F.shl .u64 x0 v9) fun v13 =>
            bnd (F.sub .u64 64 v9) fun v14 =>
            bgd (F.nonneg v14) (
              bnd (F.shr .u64 x1 v14) fun v15 =>
              bnd (F.or .u64 v13 v15) fun v16 =>
              bgd (F.nonneg v9) (
                bnd (F.shl .u64 x1 v9) fun v17 =>
                bnd (F.shr .u64 v17 32) fun v18 =>
                bnd (F.and .u64 v17 4294967295) fun v19 =>
                bgd (F.nonzero v11) (
                  bnd (F.quo .u64 v16 v11) fun v20 =>
                  bnd (F.mul .u64 v20 v11) fun v21 =>
                  bnd (F.sub .u64 v16 v21) fun v22 =>
                  obind (bits_Div64_l1 fl fl v10 v9 v11 v12 v16 v18 v19 v20 v22) fun q23 =>
                  bnd (F.mul .u64 q23.2.2.2.2.1 4294967296) fun v24 =>
                  bnd (F.add .u64 v24 q23.2.2.2.2.2.1) fun v25 =>
                  bnd (F.mul .u64 q23.2.2.2.2.2.2.2.1 q23.1) fun v26 =>
                  bnd (F.sub .u64 v25 v26) fun v27 =>
                  bgd (F.nonzero q23.2.2.1) (
                    bnd (F.quo .u64 v27 q23.2.2.1) fun v28 =>
                    bnd (F.mul .u64 v28 q23.2.2.1) fun v29 =>
                    bnd (F.sub .u64 v27 v29) fun v30 =>
                    obind (bits_Div64_l2 fl fl q23.1 q23.2.1 q23.2.2.1 q23.2.2.2.1 q23.2.2.2.2.2.2.1 q23.2.2.2.2.2.2.2.1 v30 v27 v28) fun q31 =>
                    bnd (F.mul .u64 q31.2.2.2.1 4294967296) fun v32 =>
                    bnd (F.add .u64 v32 q31.2.2.2.2.2.1) fun v33 =>
                    bnd (F.mul .u64 q31.2.2.2.2.1 4294967296) fun v34 =>
                    bnd (F.add .u64 v34 q31.2.2.1) fun v35 =>
                    bnd (F.mul .u64 q31.2.2.2.2.2.1 q31.1) fun v36 =>
                    bnd (F.sub .u64 v35 v36) fun v37 =>
                    bgd (F.nonneg q31.2.1) (
                      bnd (F.shr .u64 v37 q31.2.1) fun v38 =>
                      some (v33, v38)))))))))))

/-- glazier/fixed.checked -/
def fixed_checked (x0 : Int) (x1 : Bool) : Option (Int × Int) :=
  bnd (F.not x1) fun v2 =>
  bite v2 (
    some (0, 2)) (
    some (x0, 0))

/-- glazier/fixed.signed -/
def fixed_signed (x0 : Int) (x1 : Bool) : Option (Int × Int) :=
  bite x1 (
    bnd (F.neg .u64 x0) fun v2 =>
    bnd (F.conv .i64 v2) fun v3 =>
    bnd (F.le x0 9223372036854775808) fun v4 =>
    obind (fixed_checked v3 v4) fun q5 =>
    some q5) (
    bnd (F.conv .i64 x0) fun v6 =>
    bnd (F.le x0 9223372036854775807) fun v7 =>
    obind (fixed_checked v6 v7) fun q8 =>
    some q8)

/-- glazier/fixed.MulDiv -/
def fixed_MulDiv (fl : Nat) (x0 : Int) (x1 : Int) (x2 : Int) : Option (Int × Int) :=
  bnd (F.eq x2 0) fun v3 =>
  bite v3 (
    some (0, 3)) (
    obind (fixed_size x0) fun q4 =>
    obind (fixed_size x1) fun q5 =>
    obind (bits_Mul64 q4 q5) fun q6 =>
    obind (fixed_size x2) fun q7 =>
    bnd (F.ge q6.1 q7) fun v8 =>
    bite v8 (
      some (0, 2)) (
      obind (bits_Div64 fl q6.1 q6.2 q7) fun q9 =>
      bnd (F.lt x0 0) fun v10 =>
      bnd (F.lt x1 0) fun v11 =>
      bnd (F.bne v10 v11) fun v12 =>
      bnd (F.lt x2 0) fun v13 =>
      bnd (F.bne v12 v13) fun v14 =>
      bite v14 (
        bnd (F.gt q9.2 0) fun v15 =>
        bite v15 (
          bnd (F.add .u64 q9.1 1) fun v16 =>
          bnd (F.eq v16 0) fun v17 =>
          bite v17 (
            some (0, 2)) (
            obind (fixed_signed v16 v14) fun q18 =>
            some q18)) (
          obind (fixed_signed q9.1 v14) fun q19 =>
          some q19)) (
        obind (fixed_signed q9.1 v14) fun q20 =>
        some q20)))

/-- glazier/view.Point$1 -/
def view_Point_1 (fl : Nat) (x0 : Int) (x1 : Int) (x2 : Int × Int × Int × Int × Int × Int × Int × Int) : Option (Int) :=
  obind (fixed_MulDiv fl x0 x1 x2.2.2.2.1) fun q3 =>
  bnd (F.add .i64 q3.1 x1) fun v4 =>
  some v4

/-- glazier/view.Point -/
def view_Point (fl : Nat) (x0 : Int) (x1 : Int) (x2 : Int × Int × Int × Int × Int × Int × Int × Int) : Option ((Int × Int × Int × Int × Int × Int × Int) × Bool) :=
  bnd (F.min (F.min x0 x1) x2.2.2.2.1) fun v3 =>
  bnd (F.lt v3 1) fun v4 =>
  bite v4 (
    some ((0, (0, (0, (0, (0, (0, 0)))))), false)) (
    bnd (F.max x0 x1) fun v5 =>
    bnd (F.gt v5 64) fun v6 =>
    bite v6 (
      some ((0, (0, (0, (0, (0, (0, 0)))))), false)) (
      bnd (F.mul .i64 8 x0) fun v7 =>
      obind (view_Point_1 fl x2.1 v7 x2) fun q8 =>
      bnd (F.mul .i64 8 x1) fun v9 =>
      obind (view_Point_1 fl x2.2.1 v9 x2) fun q10 =>
      obind (view_Point_1 fl x2.2.2.1 32768 x2) fun q11 =>
      some ((q8, (q10, (q11, x2.2.2.2.2))), true)))

/-- glazier/glazierlaw06.shown -/
def glazierlaw06_shown (fl : Nat)  : Option (Bool) :=
  obind (view_Point fl 2 2 (0, (1, (0, (1, (0, (0, (0, 0)))))))) fun q0 =>
  bite q0.2 (
    bnd (F.both (F.eq q0.1.1 16) (F.both (F.eq q0.1.2.1 32) (F.both (F.eq q0.1.2.2.1 32768) (F.both (F.eq q0.1.2.2.2.1 0) (F.both (F.eq q0.1.2.2.2.2.1 0) (F.both (F.eq q0.1.2.2.2.2.2.1 0) (F.eq q0.1.2.2.2.2.2.2 0))))))) fun v1 =>
    some v1) (
    some false)

/-- glazier/glazierref04.Fit -/
def glazierref04_Fit (x0 : Int × Int × Int × Int × Int × Int × Int × Int) : Option (Int × Int × Int × Int × Int × Int × Int × Int) :=
  bnd (F.rem x0.1 32769) fun v1 =>
  bnd (F.rem x0.2.1 32769) fun v2 =>
  bnd (F.rem x0.2.2.1 32769) fun v3 =>
  bnd (F.rem x0.2.2.2.1 32768) fun v4 =>
  bnd (F.lt v4 0) fun v5 =>
  bite v5 (
    bnd (F.neg .i64 v4) fun v6 =>
    bnd (F.add .i64 1 v6) fun v7 =>
    bnd (F.rem x0.2.2.2.2.1 4097) fun v8 =>
    bnd (F.rem x0.2.2.2.2.2.1 4097) fun v9 =>
    bnd (F.rem x0.2.2.2.2.2.2.1 4097) fun v10 =>
    bnd (F.rem x0.2.2.2.2.2.2.2 4097) fun v11 =>
    some (v1, (v2, (v3, (v7, (v8, (v9, (v10, v11)))))))) (
    bnd (F.add .i64 1 v4) fun v12 =>
    bnd (F.rem x0.2.2.2.2.1 4097) fun v13 =>
    bnd (F.rem x0.2.2.2.2.2.1 4097) fun v14 =>
    bnd (F.rem x0.2.2.2.2.2.2.1 4097) fun v15 =>
    bnd (F.rem x0.2.2.2.2.2.2.2 4097) fun v16 =>
    some (v1, (v2, (v3, (v12, (v13, (v14, (v15, v16))))))))

/-- glazier/glazierlaw06.ViewMiddle -/
def glazierlaw06_ViewMiddle (fl : Nat) (x0 : Int × Int) (x1 : Int × Int × Int × Int × Int × Int × Int × Int) : Option (Bool) :=
  obind (glazierlaw06_shown fl) fun q2 =>
  bnd (F.conv .i64 x0.1) fun v3 =>
  bnd (F.rem v3 64) fun v4 =>
  bnd (F.add .i64 1 v4) fun v5 =>
  bnd (F.conv .i64 x0.2) fun v6 =>
  bnd (F.rem v6 64) fun v7 =>
  bnd (F.add .i64 1 v7) fun v8 =>
  obind (glazierref04_Fit x1) fun q9 =>
  obind (view_Point fl v5 v8 q9) fun q10 =>
  bnd (F.neg .i64 q9.1) fun v11 =>
  bnd (F.neg .i64 q9.2.1) fun v12 =>
  obind (view_Point fl v5 v8 (v11, (v12, q9.2.2))) fun q13 =>
  obind (view_Point fl v5 v8 (0, (0, (0, q9.2.2.2)))) fun q14 =>
  bnd (F.not q10.2) fun v15 =>
  bite v15 (
    some false) (
    bnd (F.not q13.2) fun v16 =>
    bite v16 (
      some false) (
      bnd (F.not q14.2) fun v17 =>
      bite v17 (
        some false) (
        bnd (F.not (F.both (F.eq q10.1.2.2.2.1 q9.2.2.2.2.1) (F.both (F.eq q10.1.2.2.2.2.1 q9.2.2.2.2.2.1) (F.both (F.eq q10.1.2.2.2.2.2.1 q9.2.2.2.2.2.2.1) (F.eq q10.1.2.2.2.2.2.2 q9.2.2.2.2.2.2.2))))) fun v18 =>
        bite v18 (
          some false) (
          bnd (F.mul .i64 8 v5) fun v19 =>
          bnd (F.ne q14.1.1 v19) fun v20 =>
          bite v20 (
            some false) (
            bnd (F.mul .i64 8 v8) fun v21 =>
            bnd (F.ne q14.1.2.1 v21) fun v22 =>
            bite v22 (
              some false) (
              bnd (F.ne q14.1.2.2.1 32768) fun v23 =>
              bite v23 (
                some false) (
                bnd (F.add .i64 q10.1.1 q13.1.1) fun v24 =>
                bnd (F.mul .i64 16 v5) fun v25 =>
                bnd (F.sub .i64 v24 v25) fun v26 =>
                bnd (F.add .i64 q10.1.2.1 q13.1.2.1) fun v27 =>
                bnd (F.mul .i64 16 v8) fun v28 =>
                bnd (F.sub .i64 v27 v28) fun v29 =>
                bite q2 (
                  bnd (F.eq v26 0) fun v30 =>
                  bite v30 (
                    bnd (F.eq v29 0) fun v31 =>
                    bite v31 (
                      bnd (F.eq q10.1.2.2.1 q13.1.2.2.1) fun v32 =>
                      some v32) (
                      bnd (F.eq v29 (-1)) fun v33 =>
                      bite v33 (
                        bnd (F.eq q10.1.2.2.1 q13.1.2.2.1) fun v34 =>
                        some v34) (
                        some false))) (
                    bnd (F.eq v26 (-1)) fun v35 =>
                    bite v35 (
                      bnd (F.eq v29 0) fun v36 =>
                      bite v36 (
                        bnd (F.eq q10.1.2.2.1 q13.1.2.2.1) fun v37 =>
                        some v37) (
                        bnd (F.eq v29 (-1)) fun v38 =>
                        bite v38 (
                          bnd (F.eq q10.1.2.2.1 q13.1.2.2.1) fun v39 =>
                          some v39) (
                          some false))) (
                      some false))) (
                  some false))))))))

/-- glazier/glazierlaw06.ViewOrder -/
def glazierlaw06_ViewOrder (fl : Nat) (x0 : (Int × Int × Int × Int × Int × Int × Int × Int) × Int × Int × Int × Int × Int × Int × Int × Int) (x1 : Int × Int) : Option (Bool) :=
  obind (glazierlaw06_shown fl) fun q2 =>
  bnd (F.conv .i64 x1.1) fun v3 =>
  bnd (F.rem v3 64) fun v4 =>
  bnd (F.add .i64 1 v4) fun v5 =>
  bnd (F.conv .i64 x1.2) fun v6 =>
  bnd (F.rem v6 64) fun v7 =>
  bnd (F.add .i64 1 v7) fun v8 =>
  obind (glazierref04_Fit x0.1) fun q9 =>
  obind (glazierref04_Fit x0.2) fun q10 =>
  obind (view_Point fl v5 v8 q9) fun q11 =>
  obind (view_Point fl v5 v8 (q10.1, (q10.2.1, (q10.2.2.1, (q9.2.2.2.1, q10.2.2.2.2))))) fun q12 =>
  bnd (F.mul .i64 2 q9.1) fun v13 =>
  bnd (F.mul .i64 2 q9.2.1) fun v14 =>
  bnd (F.mul .i64 2 q9.2.2.1) fun v15 =>
  bnd (F.mul .i64 2 q9.2.2.2.1) fun v16 =>
  obind (view_Point fl v5 v8 (v13, (v14, (v15, (v16, q9.2.2.2.2))))) fun q17 =>
  bnd (F.not q11.2) fun v18 =>
  bite v18 (
    some false) (
    bnd (F.not q12.2) fun v19 =>
    bite v19 (
      some false) (
      bnd (F.not q17.2) fun v20 =>
      bite v20 (
        some false) (
        bnd (F.not (F.both (F.eq q17.1.1 q11.1.1) (F.both (F.eq q17.1.2.1 q11.1.2.1) (F.both (F.eq q17.1.2.2.1 q11.1.2.2.1) (F.both (F.eq q17.1.2.2.2.1 q11.1.2.2.2.1) (F.both (F.eq q17.1.2.2.2.2.1 q11.1.2.2.2.2.1) (F.both (F.eq q17.1.2.2.2.2.2.1 q11.1.2.2.2.2.2.1) (F.eq q17.1.2.2.2.2.2.2 q11.1.2.2.2.2.2.2)))))))) fun v21 =>
        bite v21 (
          some false) (
          bite q2 (
            bnd (F.gt q9.1 q10.1) fun v22 =>
            bite v22 (
              bnd (F.gt q9.2.1 q10.2.1) fun v23 =>
              bite v23 (
                bnd (F.gt q9.2.2.1 q10.2.2.1) fun v24 =>
                bite v24 (
                  some true) (
                  bnd (F.le q11.1.2.2.1 q12.1.2.2.1) fun v25 =>
                  some v25)) (
                bnd (F.le q11.1.2.1 q12.1.2.1) fun v26 =>
                bite v26 (
                  bnd (F.gt q9.2.2.1 q10.2.2.1) fun v27 =>
                  bite v27 (
                    some true) (
                    bnd (F.le q11.1.2.2.1 q12.1.2.2.1) fun v28 =>
                    some v28)) (
                  some false))) (
              bnd (F.le q11.1.1 q12.1.1) fun v29 =>
              bite v29 (
                bnd (F.gt q9.2.1 q10.2.1) fun v30 =>
                bite v30 (
                  bnd (F.gt q9.2.2.1 q10.2.2.1) fun v31 =>
                  bite v31 (
                    some true) (
                    bnd (F.le q11.1.2.2.1 q12.1.2.2.1) fun v32 =>
                    some v32)) (
                  bnd (F.le q11.1.2.1 q12.1.2.1) fun v33 =>
                  bite v33 (
                    bnd (F.gt q9.2.2.1 q10.2.2.1) fun v34 =>
                    bite v34 (
                      some true) (
                      bnd (F.le q11.1.2.2.1 q12.1.2.2.1) fun v35 =>
                      some v35)) (
                    some false))) (
                some false))) (
            some false)))))

/-- glazier/glazierlaw06.ViewWider -/
def glazierlaw06_ViewWider (fl : Nat) (x0 : Int × Int × Int × Int × Int × Int × Int × Int) (x1 : Int × Int) : Option (Bool) :=
  obind (glazierlaw06_shown fl) fun q2 =>
  bnd (F.conv .i64 x1.1) fun v3 =>
  bnd (F.rem v3 32) fun v4 =>
  bnd (F.add .i64 1 v4) fun v5 =>
  bnd (F.conv .i64 x1.2) fun v6 =>
  bnd (F.rem v6 32) fun v7 =>
  bnd (F.add .i64 1 v7) fun v8 =>
  obind (glazierref04_Fit x0) fun q9 =>
  obind (view_Point fl v5 v8 q9) fun q10 =>
  bnd (F.mul .i64 2 v5) fun v11 =>
  obind (view_Point fl v11 v8 q9) fun q12 =>
  bnd (F.mul .i64 2 q10.1.1) fun v13 =>
  bnd (F.sub .i64 q12.1.1 v13) fun v14 =>
  bite q2 (
    bite q10.2 (
      bite q12.2 (
        bnd (F.eq v14 0) fun v15 =>
        bite v15 (
          bnd (F.eq q12.1.2.1 q10.1.2.1) fun v16 =>
          bite v16 (
            bnd (F.eq q12.1.2.2.1 q10.1.2.2.1) fun v17 =>
            bite v17 (
              bnd (F.both (F.eq q12.1.2.2.2.1 q10.1.2.2.2.1) (F.both (F.eq q12.1.2.2.2.2.1 q10.1.2.2.2.2.1) (F.both (F.eq q12.1.2.2.2.2.2.1 q10.1.2.2.2.2.2.1) (F.eq q12.1.2.2.2.2.2.2 q10.1.2.2.2.2.2.2)))) fun v18 =>
              some v18) (
              some false)) (
            some false)) (
          bnd (F.eq v14 1) fun v19 =>
          bite v19 (
            bnd (F.eq q12.1.2.1 q10.1.2.1) fun v20 =>
            bite v20 (
              bnd (F.eq q12.1.2.2.1 q10.1.2.2.1) fun v21 =>
              bite v21 (
                bnd (F.both (F.eq q12.1.2.2.2.1 q10.1.2.2.2.1) (F.both (F.eq q12.1.2.2.2.2.1 q10.1.2.2.2.2.1) (F.both (F.eq q12.1.2.2.2.2.2.1 q10.1.2.2.2.2.2.1) (F.eq q12.1.2.2.2.2.2.2 q10.1.2.2.2.2.2.2)))) fun v22 =>
                some v22) (
                some false)) (
              some false)) (
            some false))) (
        some false)) (
      some false)) (
    some false)

/-- glazier/glazierlaw06.small -/
def glazierlaw06_small (x0 : Int) : Option (Int) :=
  bnd (F.rem x0 1099511627777) fun v1 =>
  some v1

/-- glazier/fixed.Floor -/
def fixed_Floor (fl : Nat) (x0 : Int) (x1 : Int) : Option (Int × Int) :=
  obind (fixed_MulDiv fl x0 1 x1) fun q2 =>
  some q2

/-- glazier/view.Pixel -/
def view_Pixel (fl : Nat) (x0 : Int) : Option (Int) :=
  obind (fixed_Floor fl x0 16) fun q1 =>
  some q1.1

/-- glazier/view.Centre -/
def view_Centre (x0 : Int) : Option (Int) :=
  bnd (F.mul .i64 16 x0) fun v1 =>
  bnd (F.add .i64 v1 8) fun v2 =>
  some v2

/-- glazier/glazierlaw06.ViewPixels -/
def glazierlaw06_ViewPixels (fl : Nat) (x0 : Int) : Option (Bool) :=
  obind (glazierlaw06_shown fl) fun q1 =>
  obind (glazierlaw06_small x0) fun q2 =>
  obind (view_Pixel fl q2) fun q3 =>
  obind (view_Centre q3) fun q4 =>
  bnd (F.sub .i64 q2 q4) fun v5 =>
  bite q1 (
    bnd (F.ge v5 (-8)) fun v6 =>
    bite v6 (
      bnd (F.lt v5 8) fun v7 =>
      bite v7 (
        obind (view_Centre q2) fun q8 =>
        obind (view_Pixel fl q8) fun q9 =>
        bnd (F.eq q9 q2) fun v10 =>
        bite v10 (
          bnd (F.add .i64 q2 16) fun v11 =>
          obind (view_Pixel fl v11) fun q12 =>
          bnd (F.add .i64 q3 1) fun v13 =>
          bnd (F.eq q12 v13) fun v14 =>
          some v14) (
          some false)) (
        some false)) (
      some false)) (
    some false)

def glazierlaw06_ViewRefuses_l1 (fl : Nat) : Nat → (List (Int × Int × Int × Int × Int × Int × Int × Int)) → Int → Int → Bool → (List (Int × Int × Int × Int × Int × Int × Int × Int)) → Int → Option (Int × Int × Bool × (List (Int × Int × Int × Int × Int × Int × Int × Int)) × Unit)
  | 0, _, _, _, _, _, _ => none
  | n + 1, x0, x1, x2, x3, x4, x5 =>
    bnd (F.len x0) fun v6 =>
    bnd (F.lt x5 v6) fun v7 =>
    bite v7 (
      bnd (F.lt x5 20) fun v8 =>
      bite v8 (
        obind (F.get x0 x5) fun q9 =>
        obind (glazierref04_Fit q9) fun q10 =>
        bgd (F.appOk 64 x4 [q10]) (
          bnd (F.app x4 [q10]) fun v11 =>
          bnd (F.add .i64 x5 1) fun v12 =>
          glazierlaw06_ViewRefuses_l1 fl n x0 x1 x2 x3 v11 v12)) (
        some (x1, (x2, (x3, (x4, ())))))) (
      some (x1, (x2, (x3, (x4, ())))))

def view_Points_l1 (fl : Nat) : Nat → Int → Int → (List (Int × Int × Int × Int × Int × Int × Int)) → (List (Int × Int × Int × Int × Int × Int × Int × Int)) → Int → Int → Option (((Unit) ⊕ ((List (Int × Int × Int × Int × Int × Int × Int)) × Unit)))
  | 0, _, _, _, _, _, _ => none
  | n + 1, x0, x1, x2, x3, x4, x5 =>
    bnd (F.lt x5 x4) fun v6 =>
    bite v6 (
      obind (F.get x3 x5) fun q7 =>
      obind (view_Point fl x0 x1 q7) fun q8 =>
      bnd (F.not q8.2) fun v9 =>
      bite v9 (
        some (.inl ())) (
        bgd (F.appOk 56 x2 [q8.1]) (
          bnd (F.app x2 [q8.1]) fun v10 =>
          bnd (F.add .i64 x5 1) fun v11 =>
          view_Points_l1 fl n x0 x1 v10 x3 x4 v11))) (
      some (.inr (x2, ())))

/-- glazier/view.Points -/
def view_Points (fl : Nat) (x0 : Int) (x1 : Int) (x2 : List (Int × Int × Int × Int × Int × Int × Int × Int)) : Option ((List (Int × Int × Int × Int × Int × Int × Int)) × Bool) :=
  bnd (F.len x2) fun v3 =>
  obind (view_Points_l1 fl fl x0 x1 [] x2 v3 0) fun q4 =>
  osum q4 (fun s5 =>
    some ([], false)) (fun r6 =>
    some (r6.1, true))

/-- glazier/glazierlaw06.ViewRefuses -/
def glazierlaw06_ViewRefuses (fl : Nat) (x0 : List (Int × Int × Int × Int × Int × Int × Int × Int)) (x1 : Int) (x2 : Int) : Option (Bool) :=
  obind (glazierlaw06_shown fl) fun q3 =>
  obind (glazierlaw06_ViewRefuses_l1 fl fl x0 x1 x2 q3 [] 0) fun q4 =>
  obind (view_Points fl 64 1 q4.2.2.2.1) fun q5 =>
  bnd (F.not q5.2) fun v6 =>
  bite v6 (
    some false) (
    bnd (F.len q5.1) fun v7 =>
    bnd (F.len q4.2.2.2.1) fun v8 =>
    bnd (F.ne v7 v8) fun v9 =>
    bite v9 (
      some false) (
      bnd (F.rem q4.2.1 4) fun v10 =>
      bnd (F.eq v10 0) fun v11 =>
      bite v11 (
        obind (view_Points fl 65 1 q4.2.2.2.1) fun q12 =>
        bite q4.2.2.1 (
          bnd (F.len q12.1) fun v13 =>
          bnd (F.eq v13 0) fun v14 =>
          bite v14 (
            bnd (F.len q4.2.2.2.1) fun v15 =>
            bnd (F.eq v15 0) fun v16 =>
            bnd (F.beq q12.2 v16) fun v17 =>
            some v17) (
            some false)) (
          some false)) (
        bnd (F.eq v10 1) fun v18 =>
        bite v18 (
          obind (view_Points fl 64 0 q4.2.2.2.1) fun q19 =>
          bite q4.2.2.1 (
            bnd (F.len q19.1) fun v20 =>
            bnd (F.eq v20 0) fun v21 =>
            bite v21 (
              bnd (F.len q4.2.2.2.1) fun v22 =>
              bnd (F.eq v22 0) fun v23 =>
              bnd (F.beq q19.2 v23) fun v24 =>
              some v24) (
              some false)) (
            some false)) (
          bnd (F.eq v10 2) fun v25 =>
          bite v25 (
            obind (view_Points fl (-3) 1 q4.2.2.2.1) fun q26 =>
            bite q4.2.2.1 (
              bnd (F.len q26.1) fun v27 =>
              bnd (F.eq v27 0) fun v28 =>
              bite v28 (
                bnd (F.len q4.2.2.2.1) fun v29 =>
                bnd (F.eq v29 0) fun v30 =>
                bnd (F.beq q26.2 v30) fun v31 =>
                some v31) (
                some false)) (
              some false)) (
            bnd (F.eq v10 3) fun v32 =>
            bite v32 (
              bnd (F.len q4.2.2.2.1) fun v33 =>
              bnd (F.eq v33 0) fun v34 =>
              bite v34 (
                some q4.2.2.1) (
                bnd (F.conv .i64 q4.1) fun v35 =>
                bnd (F.len q4.2.2.2.1) fun v36 =>
                bgd (F.nonzero v36) (
                  bnd (F.rem v35 v36) fun v37 =>
                  bgd (F.has q4.2.2.2.1 v37) (
                    obind (F.get q4.2.2.2.1 v37) fun q38 =>
                    bnd (F.put q4.2.2.2.1 v37 (q38.1, (q38.2.1, (q38.2.2.1, (0, q38.2.2.2.2))))) fun v39 =>
                    obind (view_Points fl 64 1 v39) fun q40 =>
                    bite q4.2.2.1 (
                      bnd (F.len q40.1) fun v41 =>
                      bnd (F.eq v41 0) fun v42 =>
                      bite v42 (
                        bnd (F.len v39) fun v43 =>
                        bnd (F.eq v43 0) fun v44 =>
                        bnd (F.beq q40.2 v44) fun v45 =>
                        some v45) (
                        some false)) (
                      some false))))) (
              obind (view_Points fl 64 1 q4.2.2.2.1) fun q46 =>
              bite q4.2.2.1 (
                bnd (F.len q46.1) fun v47 =>
                bnd (F.eq v47 0) fun v48 =>
                bite v48 (
                  bnd (F.len q4.2.2.2.1) fun v49 =>
                  bnd (F.eq v49 0) fun v50 =>
                  bnd (F.beq q46.2 v50) fun v51 =>
                  some v51) (
                  some false)) (
                some false)))))))

/-- glazier/glazierref04.Small -/
def glazierref04_Small (x0 : Int × Int × Int × Int × Int × Int × Int × Int) : Option (Int × Int × Int × Int × Int × Int × Int × Int) :=
  bnd (F.rem x0.1 1048577) fun v1 =>
  bnd (F.rem x0.2.1 1048577) fun v2 =>
  bnd (F.rem x0.2.2.1 1048577) fun v3 =>
  bnd (F.rem x0.2.2.2.1 1048577) fun v4 =>
  bnd (F.rem x0.2.2.2.2.1 1048577) fun v5 =>
  bnd (F.rem x0.2.2.2.2.2.1 1048577) fun v6 =>
  bnd (F.rem x0.2.2.2.2.2.2.1 1048577) fun v7 =>
  bnd (F.rem x0.2.2.2.2.2.2.2 1048577) fun v8 =>
  some (v1, (v2, (v3, (v4, (v5, (v6, (v7, v8)))))))

/-- glazier/glazierref01.size -/
def glazierref01_size (x0 : Int) : Option (Int) :=
  bnd (F.lt x0 0) fun v1 =>
  bite v1 (
    bnd (F.conv .u64 x0) fun v2 =>
    bnd (F.sub .u64 0 v2) fun v3 =>
    some v3) (
    bnd (F.conv .u64 x0) fun v4 =>
    some v4)

def glazierref01_times_l1 (fl : Nat) : Nat → Int → Int → Int → Int → Int → Int → Int → Option (Int × Int × Int × Int × Unit)
  | 0, _, _, _, _, _, _, _ => none
  | n + 1, x0, x1, x2, x3, x4, x5, x6 =>
    bnd (F.ge x6 0) fun v7 =>
    bite v7 (
      bnd (F.mul .u64 x4 2) fun v8 =>
      bnd (F.quo .u64 x5 9223372036854775808) fun v9 =>
      bnd (F.add .u64 v8 v9) fun v10 =>
      bnd (F.mul .u64 x5 2) fun v11 =>
      bgd (F.nonneg x6) (
        bnd (F.shr .u64 x2 x6) fun v12 =>
        bnd (F.rem v12 2) fun v13 =>
        bnd (F.eq v13 1) fun v14 =>
        bite v14 (
          bnd (F.add .u64 v11 x3) fun v15 =>
          bnd (F.lt v15 v11) fun v16 =>
          bite v16 (
            bnd (F.add .u64 v10 1) fun v17 =>
            bnd (F.sub .i64 x6 1) fun v18 =>
            glazierref01_times_l1 fl n x0 x1 x2 x3 v17 v15 v18) (
            bnd (F.sub .i64 x6 1) fun v19 =>
            glazierref01_times_l1 fl n x0 x1 x2 x3 v10 v15 v19)) (
          bnd (F.sub .i64 x6 1) fun v20 =>
          glazierref01_times_l1 fl n x0 x1 x2 x3 v10 v11 v20))) (
      some (x0, (x1, (x4, (x5, ())))))

/-- glazier/glazierref01.times -/
def glazierref01_times (fl : Nat) (x0 : Int) (x1 : Int) : Option (Int × Int × Bool) :=
  obind (glazierref01_size x0) fun q2 =>
  obind (glazierref01_size x1) fun q3 =>
  obind (glazierref01_times_l1 fl fl x0 x1 q2 q3 0 0 63) fun q4 =>
  bnd (F.lt q4.1 0) fun v5 =>
  bnd (F.lt q4.2.1 0) fun v6 =>
  bnd (F.bne v5 v6) fun v7 =>
  bite v7 (
    bnd (F.gt q4.2.2.1 0) fun v8 =>
    bite v8 (
      some (q4.2.2.1, (q4.2.2.2.1, true))) (
      bnd (F.gt q4.2.2.2.1 0) fun v9 =>
      some (q4.2.2.1, (q4.2.2.2.1, v9)))) (
    some (q4.2.2.1, (q4.2.2.2.1, false)))

def glazierref01_parts_l1 (fl : Nat) : Nat → Int → Int → Int → Int → Int → Int → Int → Bool → Option (Int × Int × Int × Unit)
  | 0, _, _, _, _, _, _, _, _ => none
  | n + 1, x0, x1, x2, x3, x4, x5, x6, x7 =>
    bnd (F.ge x4 0) fun v8 =>
    bite v8 (
      bnd (F.gt x4 63) fun v9 =>
      bite v9 (
        bnd (F.sub .i64 x4 64) fun v10 =>
        bgd (F.nonneg v10) (
          bnd (F.shr .u64 x5 v10) fun v11 =>
          bnd (F.rem v11 2) fun v12 =>
          bnd (F.ge x3 9223372036854775808) fun v13 =>
          bnd (F.mul .u64 x3 2) fun v14 =>
          bnd (F.add .u64 v14 v12) fun v15 =>
          bnd (F.mul .u64 x1 2) fun v16 =>
          bnd (F.quo .u64 x2 9223372036854775808) fun v17 =>
          bnd (F.add .u64 v16 v17) fun v18 =>
          bnd (F.mul .u64 x2 2) fun v19 =>
          bite v13 (
            bnd (F.sub .u64 v15 x0) fun v20 =>
            bnd (F.add .u64 v19 1) fun v21 =>
            bnd (F.sub .i64 x4 1) fun v22 =>
            glazierref01_parts_l1 fl n x0 v18 v21 v20 v22 x5 x6 x7) (
            bnd (F.ge v15 x0) fun v23 =>
            bite v23 (
              bnd (F.sub .u64 v15 x0) fun v24 =>
              bnd (F.add .u64 v19 1) fun v25 =>
              bnd (F.sub .i64 x4 1) fun v26 =>
              glazierref01_parts_l1 fl n x0 v18 v25 v24 v26 x5 x6 x7) (
              bnd (F.sub .i64 x4 1) fun v27 =>
              glazierref01_parts_l1 fl n x0 v18 v19 v15 v27 x5 x6 x7)))) (
        bgd (F.nonneg x4) (
          bnd (F.shr .u64 x6 x4) fun v28 =>
          bnd (F.rem v28 2) fun v29 =>
          bnd (F.ge x3 9223372036854775808) fun v30 =>
          bnd (F.mul .u64 x3 2) fun v31 =>
          bnd (F.add .u64 v31 v29) fun v32 =>
          bnd (F.mul .u64 x1 2) fun v33 =>
          bnd (F.quo .u64 x2 9223372036854775808) fun v34 =>
          bnd (F.add .u64 v33 v34) fun v35 =>
          bnd (F.mul .u64 x2 2) fun v36 =>
          bite v30 (
            bnd (F.sub .u64 v32 x0) fun v37 =>
            bnd (F.add .u64 v36 1) fun v38 =>
            bnd (F.sub .i64 x4 1) fun v39 =>
            glazierref01_parts_l1 fl n x0 v35 v38 v37 v39 x5 x6 x7) (
            bnd (F.ge v32 x0) fun v40 =>
            bite v40 (
              bnd (F.sub .u64 v32 x0) fun v41 =>
              bnd (F.add .u64 v36 1) fun v42 =>
              bnd (F.sub .i64 x4 1) fun v43 =>
              glazierref01_parts_l1 fl n x0 v35 v42 v41 v43 x5 x6 x7) (
              bnd (F.sub .i64 x4 1) fun v44 =>
              glazierref01_parts_l1 fl n x0 v35 v36 v32 v44 x5 x6 x7))))) (
      some (x1, (x2, (x3, ()))))

/-- glazier/glazierref01.parts -/
def glazierref01_parts (fl : Nat) (x0 : Int × Int × Bool) (x1 : Int) : Option (Int × Int × Int) :=
  obind (glazierref01_parts_l1 fl fl x1 0 0 0 127 x0.1 x0.2.1 x0.2.2) fun q2 =>
  some (q2.1, (q2.2.1, q2.2.2.1))

/-- glazier/glazierref01.told -/
def glazierref01_told (x0 : Int) (x1 : Int) (x2 : Bool) : Option (Int × Int) :=
  bite x2 (
    bnd (F.gt x0 0) fun v3 =>
    bite v3 (
      some (0, 2)) (
      bnd (F.gt x1 9223372036854775808) fun v4 =>
      bite v4 (
        some (0, 2)) (
        bite x2 (
          bnd (F.sub .u64 0 x1) fun v5 =>
          bnd (F.conv .i64 v5) fun v6 =>
          some (v6, 0)) (
          bnd (F.conv .i64 x1) fun v7 =>
          some (v7, 0))))) (
    bnd (F.gt x0 0) fun v8 =>
    bite v8 (
      some (0, 2)) (
      bnd (F.gt x1 9223372036854775807) fun v9 =>
      bite v9 (
        some (0, 2)) (
        bite x2 (
          bnd (F.sub .u64 0 x1) fun v10 =>
          bnd (F.conv .i64 v10) fun v11 =>
          some (v11, 0)) (
          bnd (F.conv .i64 x1) fun v12 =>
          some (v12, 0)))))

/-- glazier/glazierref01.MulDiv -/
def glazierref01_MulDiv (fl : Nat) (x0 : Int) (x1 : Int) (x2 : Int) : Option (Int × Int) :=
  bnd (F.eq x2 0) fun v3 =>
  bite v3 (
    some (0, 3)) (
    obind (glazierref01_times fl x0 x1) fun q4 =>
    bnd (F.lt x2 0) fun v5 =>
    bnd (F.bne q4.2.2 v5) fun v6 =>
    bite v6 (
      bnd (F.gt q4.1 0) fun v7 =>
      bite v7 (
        obind (glazierref01_size x2) fun q8 =>
        obind (glazierref01_parts fl q4 q8) fun q9 =>
        bnd (F.gt q9.2.2 0) fun v10 =>
        bite v10 (
          bnd (F.add .u64 q9.2.1 1) fun v11 =>
          bnd (F.eq v11 0) fun v12 =>
          bite v12 (
            bnd (F.add .u64 q9.1 1) fun v13 =>
            obind (glazierref01_told v13 v11 true) fun q14 =>
            some q14) (
            obind (glazierref01_told q9.1 v11 true) fun q15 =>
            some q15)) (
          obind (glazierref01_told q9.1 q9.2.1 true) fun q16 =>
          some q16)) (
        bnd (F.gt q4.2.1 0) fun v17 =>
        obind (glazierref01_size x2) fun q18 =>
        obind (glazierref01_parts fl q4 q18) fun q19 =>
        bite v17 (
          bnd (F.gt q19.2.2 0) fun v20 =>
          bite v20 (
            bnd (F.add .u64 q19.2.1 1) fun v21 =>
            bnd (F.eq v21 0) fun v22 =>
            bite v22 (
              bnd (F.add .u64 q19.1 1) fun v23 =>
              obind (glazierref01_told v23 v21 v17) fun q24 =>
              some q24) (
              obind (glazierref01_told q19.1 v21 v17) fun q25 =>
              some q25)) (
            obind (glazierref01_told q19.1 q19.2.1 v17) fun q26 =>
            some q26)) (
          obind (glazierref01_told q19.1 q19.2.1 v17) fun q27 =>
          some q27))) (
      obind (glazierref01_size x2) fun q28 =>
      obind (glazierref01_parts fl q4 q28) fun q29 =>
      obind (glazierref01_told q29.1 q29.2.1 false) fun q30 =>
      some q30))

/-- glazier/glazierref01.Floor -/
def glazierref01_Floor (fl : Nat) (x0 : Int) (x1 : Int) : Option (Int × Int) :=
  obind (glazierref01_MulDiv fl x0 1 x1) fun q2 =>
  some q2

/-- glazier/glazierref01.Down -/
def glazierref01_Down (fl : Nat) (x0 : Int) (x1 : Int) : Option (Int) :=
  obind (glazierref01_Floor fl x0 x1) fun q2 =>
  some q2.1

/-- glazier/glazierref06.Point -/
def glazierref06_Point (fl : Nat) (x0 : Int) (x1 : Int) (x2 : Int × Int × Int × Int × Int × Int × Int × Int) : Option ((Int × Int × Int × Int × Int × Int × Int) × Bool) :=
  bnd (F.lt x0 1) fun v3 =>
  bite v3 (
    some ((0, (0, (0, (0, (0, (0, 0)))))), false)) (
    bnd (F.gt x0 64) fun v4 =>
    bite v4 (
      some ((0, (0, (0, (0, (0, (0, 0)))))), false)) (
      bnd (F.lt x1 1) fun v5 =>
      bite v5 (
        some ((0, (0, (0, (0, (0, (0, 0)))))), false)) (
        bnd (F.gt x1 64) fun v6 =>
        bite v6 (
          some ((0, (0, (0, (0, (0, (0, 0)))))), false)) (
          bnd (F.lt x2.2.2.2.1 1) fun v7 =>
          bite v7 (
            some ((0, (0, (0, (0, (0, (0, 0)))))), false)) (
            bnd (F.mul .i64 x2.1 8) fun v8 =>
            bnd (F.mul .i64 v8 x0) fun v9 =>
            obind (glazierref01_Down fl v9 x2.2.2.2.1) fun q10 =>
            bnd (F.mul .i64 8 x0) fun v11 =>
            bnd (F.add .i64 q10 v11) fun v12 =>
            bnd (F.mul .i64 x2.2.1 8) fun v13 =>
            bnd (F.mul .i64 v13 x1) fun v14 =>
            obind (glazierref01_Down fl v14 x2.2.2.2.1) fun q15 =>
            bnd (F.mul .i64 8 x1) fun v16 =>
            bnd (F.add .i64 q15 v16) fun v17 =>
            bnd (F.mul .i64 x2.2.2.1 32768) fun v18 =>
            obind (glazierref01_Down fl v18 x2.2.2.2.1) fun q19 =>
            bnd (F.add .i64 q19 32768) fun v20 =>
            some ((v12, (v17, (v20, x2.2.2.2.2))), true))))))

def glazierlaw06_ViewAll_l1 (fl : Nat) : Nat → (List (Int × Int × Int × Int × Int × Int × Int × Int)) → Int → Bool → (List (Int × Int × Int × Int × Int × Int × Int × Int)) → Int → Int → Int → Option (((Unit) ⊕ (Int × Bool × (List (Int × Int × Int × Int × Int × Int × Int × Int)) × Int × Int × Unit)))
  | 0, _, _, _, _, _, _, _ => none
  | n + 1, x0, x1, x2, x3, x4, x5, x6 =>
    bnd (F.len x0) fun v7 =>
    bnd (F.lt x4 v7) fun v8 =>
    bite v8 (
      bnd (F.lt x4 20) fun v9 =>
      bite v9 (
        obind (F.get x0 x4) fun q10 =>
        obind (glazierref04_Small q10) fun q11 =>
        bgd (F.appOk 64 x3 [q11]) (
          bnd (F.app x3 [q11]) fun v12 =>
          obind (view_Point fl x5 x6 q11) fun q13 =>
          obind (glazierref06_Point fl x5 x6 q11) fun q14 =>
          bnd (F.not (F.both (F.eq q13.1.1 q14.1.1) (F.both (F.eq q13.1.2.1 q14.1.2.1) (F.both (F.eq q13.1.2.2.1 q14.1.2.2.1) (F.both (F.eq q13.1.2.2.2.1 q14.1.2.2.2.1) (F.both (F.eq q13.1.2.2.2.2.1 q14.1.2.2.2.2.1) (F.both (F.eq q13.1.2.2.2.2.2.1 q14.1.2.2.2.2.2.1) (F.eq q13.1.2.2.2.2.2.2 q14.1.2.2.2.2.2.2)))))))) fun v15 =>
          bite v15 (
            some (.inl ())) (
            bnd (F.bne q13.2 q14.2) fun v16 =>
            bite v16 (
              some (.inl ())) (
              bnd (F.add .i64 x4 1) fun v17 =>
              glazierlaw06_ViewAll_l1 fl n x0 x1 x2 v12 v17 x5 x6)))) (
        some (.inr (x1, (x2, (x3, (x5, (x6, ())))))))) (
      some (.inr (x1, (x2, (x3, (x5, (x6, ())))))))

def glazierref06_Points_l1 (fl : Nat) : Nat → Int → Int → (List (Int × Int × Int × Int × Int × Int × Int × Int)) → (List (Int × Int × Int × Int × Int × Int × Int)) → Int → Option (((Unit) ⊕ ((List (Int × Int × Int × Int × Int × Int × Int)) × Unit)))
  | 0, _, _, _, _, _ => none
  | n + 1, x0, x1, x2, x3, x4 =>
    bnd (F.len x2) fun v5 =>
    bnd (F.lt x4 v5) fun v6 =>
    bite v6 (
      obind (F.get x2 x4) fun q7 =>
      obind (glazierref06_Point fl x0 x1 q7) fun q8 =>
      bnd (F.not q8.2) fun v9 =>
      bite v9 (
        some (.inl ())) (
        bgd (F.appOk 56 x3 [q8.1]) (
          bnd (F.app x3 [q8.1]) fun v10 =>
          bnd (F.add .i64 x4 1) fun v11 =>
          glazierref06_Points_l1 fl n x0 x1 x2 v10 v11))) (
      some (.inr (x3, ())))

/-- glazier/glazierref06.Points -/
def glazierref06_Points (fl : Nat) (x0 : Int) (x1 : Int) (x2 : List (Int × Int × Int × Int × Int × Int × Int × Int)) : Option ((List (Int × Int × Int × Int × Int × Int × Int)) × Bool) :=
  obind (glazierref06_Points_l1 fl fl x0 x1 x2 [] 0) fun q3 =>
  osum q3 (fun s4 =>
    some ([], false)) (fun r5 =>
    some (r5.1, true))

def glazierref06_Same_l1 (fl : Nat) : Nat → (List (Int × Int × Int × Int × Int × Int × Int)) → (List (Int × Int × Int × Int × Int × Int × Int)) → Int → Option (((Unit) ⊕ (Unit)))
  | 0, _, _, _ => none
  | n + 1, x0, x1, x2 =>
    bnd (F.len x0) fun v3 =>
    bnd (F.lt x2 v3) fun v4 =>
    bite v4 (
      obind (F.get x0 x2) fun q5 =>
      obind (F.get x1 x2) fun q6 =>
      bnd (F.not (F.both (F.eq q5.1 q6.1) (F.both (F.eq q5.2.1 q6.2.1) (F.both (F.eq q5.2.2.1 q6.2.2.1) (F.both (F.eq q5.2.2.2.1 q6.2.2.2.1) (F.both (F.eq q5.2.2.2.2.1 q6.2.2.2.2.1) (F.both (F.eq q5.2.2.2.2.2.1 q6.2.2.2.2.2.1) (F.eq q5.2.2.2.2.2.2 q6.2.2.2.2.2.2)))))))) fun v7 =>
      bite v7 (
        some (.inl ())) (
        bnd (F.add .i64 x2 1) fun v8 =>
        glazierref06_Same_l1 fl n x0 x1 v8)) (
      some (.inr ()))

/-- glazier/glazierref06.Same -/
def glazierref06_Same (fl : Nat) (x0 : List (Int × Int × Int × Int × Int × Int × Int)) (x1 : List (Int × Int × Int × Int × Int × Int × Int)) : Option (Bool) :=
  bnd (F.len x0) fun v2 =>
  bnd (F.len x1) fun v3 =>
  bnd (F.ne v2 v3) fun v4 =>
  bite v4 (
    some false) (
    obind (glazierref06_Same_l1 fl fl x0 x1 0) fun q5 =>
    osum q5 (fun s6 =>
      some false) (fun r7 =>
      some true))

/-- glazier/glazierref06.Pixel -/
def glazierref06_Pixel (fl : Nat) (x0 : Int) : Option (Int) :=
  obind (glazierref01_Down fl x0 16) fun q1 =>
  some q1

/-- glazier/glazierref06.Centre -/
def glazierref06_Centre (x0 : Int) : Option (Int) :=
  bnd (F.mul .i64 16 x0) fun v1 =>
  bnd (F.add .i64 v1 8) fun v2 =>
  some v2

/-- glazier/glazierlaw06.ViewAll -/
def glazierlaw06_ViewAll (fl : Nat) (x0 : Int × Int) (x1 : List (Int × Int × Int × Int × Int × Int × Int × Int)) (x2 : Int) : Option (Bool) :=
  obind (glazierlaw06_shown fl) fun q3 =>
  obind (glazierlaw06_ViewAll_l1 fl fl x1 x2 q3 [] 0 x0.1 x0.2) fun q4 =>
  osum q4 (fun s5 =>
    some false) (fun r6 =>
    obind (view_Points fl r6.2.2.2.1 r6.2.2.2.2.1 r6.2.2.1) fun q7 =>
    obind (glazierref06_Points fl r6.2.2.2.1 r6.2.2.2.2.1 r6.2.2.1) fun q8 =>
    obind (glazierref06_Same fl q7.1 q8.1) fun q9 =>
    obind (glazierlaw06_small r6.1) fun q10 =>
    bite r6.2.1 (
      bite q9 (
        bnd (F.beq q7.2 q8.2) fun v11 =>
        bite v11 (
          obind (view_Pixel fl q10) fun q12 =>
          obind (glazierref06_Pixel fl q10) fun q13 =>
          bnd (F.eq q12 q13) fun v14 =>
          bite v14 (
            obind (view_Centre q10) fun q15 =>
            obind (glazierref06_Centre q10) fun q16 =>
            bnd (F.eq q15 q16) fun v17 =>
            some v17) (
            some false)) (
          some false)) (
        some false)) (
      some false))


end Go.Proofs.Ytjflobchmpmeoaa.G
