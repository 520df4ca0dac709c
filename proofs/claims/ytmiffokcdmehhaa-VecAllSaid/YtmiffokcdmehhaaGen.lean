/- Plain functions, printed by program out of the given ones: what each Go function comes to. -/
import Derived.Test.YtmiffokcdmehhaaMchA
set_option linter.unusedVariables false
namespace Go.Proofs.Ytmiffokcdmehhaa.G
open Go Go.Proofs.Ytmiffokcdmehhaa.M

/-- glazier/vec.Dist -/
def vec_Dist (x0 : Int) (x1 : Int × Int × Int × Int × Int × Int × Int × Int) : Option (Int) :=
  bnd (F.lt x0 0) fun v2 =>
  bite v2 (
    some 0) (
    bnd (F.ge x0 5) fun v3 =>
    bite v3 (
      some 0) (
      bnd (F.mul .i64 4 x1.2.2.2.1) fun v4 =>
      bnd (F.add .i64 x1.2.2.1 x1.2.2.2.1) fun v5 =>
      bnd (F.add .i64 v4 x1.1) fun v6 =>
      bnd (F.sub .i64 v4 x1.1) fun v7 =>
      bnd (F.add .i64 v4 x1.2.1) fun v8 =>
      bnd (F.sub .i64 v4 x1.2.1) fun v9 =>
      obind (F.get [v5, v6, v7, v8, v9] x0) fun q10 =>
      some q10))

/-- glazier/vec.row -/
def vec_row (x0 : Int × Int × Int × Int × Int × Int × Int × Int) : Option (Int × Int × Int × Int × Int × Int × Int × Int) :=
  some x0

/-- glazier/fixed.size -/
def fixed_size (x0 : Int) : Option (Int) :=
  bnd (F.neg .i64 x0) fun v1 =>
  bnd (F.max x0 v1) fun v2 =>
  bnd (F.conv .u64 v2) fun v3 =>
  some v3

/-- math/bits.Mul64 -/
def bits_Mul64 (x0 : Int) (x1 : Int) : Option (Int × Int) :=
  bnd (F.and .u64 x0 4294967295) fun v2 =>
  bnd (F.shr .u64 x0 32) fun v3 =>
  bnd (F.and .u64 x1 4294967295) fun v4 =>
  bnd (F.shr .u64 x1 32) fun v5 =>
  bnd (F.mul .u64 v2 v4) fun v6 =>
  bnd (F.mul .u64 v3 v4) fun v7 =>
  bnd (F.shr .u64 v6 32) fun v8 =>
  bnd (F.add .u64 v7 v8) fun v9 =>
  bnd (F.and .u64 v9 4294967295) fun v10 =>
  bnd (F.shr .u64 v9 32) fun v11 =>
  bnd (F.mul .u64 v2 v5) fun v12 =>
  bnd (F.add .u64 v10 v12) fun v13 =>
  bnd (F.mul .u64 v3 v5) fun v14 =>
  bnd (F.add .u64 v14 v11) fun v15 =>
  bnd (F.shr .u64 v13 32) fun v16 =>
  bnd (F.add .u64 v15 v16) fun v17 =>
  bnd (F.mul .u64 x0 x1) fun v18 =>
  some (v17, v18)

/-- math/bits.LeadingZeros64 -/
def bits_LeadingZeros64 (x0 : Int) : Option (Int) :=
  none

def bits_Div64_l1 (fl : Nat) : Nat → Int → Int → Int → Int → Int → Int → Int → Int → Int → Option (Int × Int × Int × Int × Int × Int × Int × Int × Int × Unit)
  | 0, _, _, _, _, _, _, _, _, _ => none
  | n + 1, x0, x1, x2, x3, x4, x5, x6, x7, x8 =>
    bnd (F.ge x7 4294967296) fun v9 =>
    bite v9 (
      bnd (F.sub .u64 x7 1) fun v10 =>
      bnd (F.add .u64 x8 x2) fun v11 =>
      bnd (F.ge v11 4294967296) fun v12 =>
      bite v12 (
        some (x0, (x1, (x2, (x3, (x4, (x5, (x6, (v10, (v11, ())))))))))) (
        bits_Div64_l1 fl n x0 x1 x2 x3 x4 x5 x6 v10 v11)) (
      bnd (F.mul .u64 x7 x3) fun v13 =>
      bnd (F.mul .u64 4294967296 x8) fun v14 =>
      bnd (F.add .u64 v14 x5) fun v15 =>
      bnd (F.gt v13 v15) fun v16 =>
      bite v16 (
        bnd (F.sub .u64 x7 1) fun v17 =>
        bnd (F.add .u64 x8 x2) fun v18 =>
        bnd (F.ge v18 4294967296) fun v19 =>
        bite v19 (
          some (x0, (x1, (x2, (x3, (x4, (x5, (x6, (v17, (v18, ())))))))))) (
          bits_Div64_l1 fl n x0 x1 x2 x3 x4 x5 x6 v17 v18)) (
        some (x0, (x1, (x2, (x3, (x4, (x5, (x6, (x7, (x8, ())))))))))))

def bits_Div64_l2 (fl : Nat) : Nat → Int → Int → Int → Int → Int → Int → Int → Int → Int → Option (Int × Int × Int × Int × Int × Int × Unit)
  | 0, _, _, _, _, _, _, _, _, _ => none
  | n + 1, x0, x1, x2, x3, x4, x5, x6, x7, x8 =>
    bnd (F.ge x8 4294967296) fun v9 =>
    bite v9 (
      bnd (F.sub .u64 x8 1) fun v10 =>
      bnd (F.add .u64 x6 x2) fun v11 =>
      bnd (F.ge v11 4294967296) fun v12 =>
      bite v12 (
        some (x0, (x1, (x4, (x5, (x7, (v10, ()))))))) (
        bits_Div64_l2 fl n x0 x1 x2 x3 x4 x5 v11 x7 v10)) (
      bnd (F.mul .u64 x8 x3) fun v13 =>
      bnd (F.mul .u64 4294967296 x6) fun v14 =>
      bnd (F.add .u64 v14 x4) fun v15 =>
      bnd (F.gt v13 v15) fun v16 =>
      bite v16 (
        bnd (F.sub .u64 x8 1) fun v17 =>
        bnd (F.add .u64 x6 x2) fun v18 =>
        bnd (F.ge v18 4294967296) fun v19 =>
        bite v19 (
          some (x0, (x1, (x4, (x5, (x7, (v17, ()))))))) (
          bits_Div64_l2 fl n x0 x1 x2 x3 x4 x5 v18 x7 v17)) (
        some (x0, (x1, (x4, (x5, (x7, (x8, ()))))))))

/-- math/bits.Div64 -/
def bits_Div64 (fl : Nat) (x0 : Int) (x1 : Int) (x2 : Int) : Option (Int × Int) :=
  bnd (F.eq x2 0) fun v3 =>
  bite v3 (
    none) (
    bnd (F.le x2 x0) fun v4 =>
    bite v4 (
      none) (
      bnd (F.eq x0 0) fun v5 =>
      bite v5 (
        bgd (F.nonzero x2) (
          bnd (F.quo .u64 x1 x2) fun v6 =>
          bgd (F.nonzero x2) (
            bnd (F.rem x1 x2) fun v7 =>
            some (v6, v7)))) (
        obind (bits_LeadingZeros64 x2) fun q8 =>
        bnd (F.conv .u64 q8) fun v9 =>
        bgd (F.nonneg v9) (
          bnd (F.shl .u64 x2 v9) fun v10 =>
          bnd (F.shr .u64 v10 32) fun v11 =>
          bnd (F.and .u64 v10 4294967295) fun v12 =>
          bgd (F.nonneg v9) (
            bnd (F.shl .u64 x0 v9) fun v13 =>
            bnd (F.sub .u64 64 v9) fun v14 =>
            bgd (F.nonneg v14) (
              bnd (F.shr .u64 x1 v14) fun v15 =>
              bnd (F.or .u64 v13 v15) fun v16 =>
              bgd (F.nonneg v9) (
                bnd (F.shl .u64 x1 v9) fun v17 =>
                bnd (F.shr .u64 v17 32) fun v18 =>
                bnd (F.and .u64 v17 4294967295) fun v19 =>
                bgd (F.nonzero v11) (
                  bnd (F.quo .u64 v16 v11) fun v20 =>
                  bnd (F.mul .u64 v20 v11) fun v21 =>
                  bnd (F.sub .u64 v16 v21) fun v22 =>
                  obind (bits_Div64_l1 fl fl v10 v9 v11 v12 v16 v18 v19 v20 v22) fun q23 =>
                  bnd (F.mul .u64 q23.2.2.2.2.1 4294967296) fun v24 =>
                  bnd (F.add .u64 v24 q23.2.2.2.2.2.1) fun v25 =>
                  bnd (F.mul .u64 q23.2.2.2.2.2.2.2.1 q23.1) fun v26 =>
                  bnd (F.sub .u64 v25 v26) fun v27 =>
                  bgd (F.nonzero q23.2.2.1) (
                    bnd (F.quo .u64 v27 q23.2.2.1) fun v28 =>
                    bnd (F.mul .u64 v28 q23.2.2.1) fun v29 =>
                    bnd (F.sub .u64 v27 v29) fun v30 =>
                    obind (bits_Div64_l2 fl fl q23.1 q23.2.1 q23.2.2.1 q23.2.2.2.1 q23.2.2.2.2.2.2.1 q23.2.2.2.2.2.2.2.1 v30 v27 v28) fun q31 =>
                    bnd (F.mul .u64 q31.2.2.2.1 4294967296) fun v32 =>
                    bnd (F.add .u64 v32 q31.2.2.2.2.2.1) fun v33 =>
                    bnd (F.mul .u64 q31.2.2.2.2.1 4294967296) fun v34 =>
                    bnd (F.add .u64 v34 q31.2.2.1) fun v35 =>
                    bnd (F.mul .u64 q31.2.2.2.2.2.1 q31.1) fun v36 =>
                    bnd (F.sub .u64 v35 v36) fun v37 =>
                    bgd (F.nonneg q31.2.1) (
                      bnd (F.shr .u64 v37 q31.2.1) fun v38 =>
                      some (v33, v38)))))))))))

/-- glazier/fixed.checked -/
def fixed_checked (x0 : Int) (x1 : Bool) : Option (Int × Int) :=
  bnd (F.not x1) fun v2 =>
  bite v2 (
    some (0, 2)) (
    some (x0, 0))

/-- glazier/fixed.signed -/
def fixed_signed (x0 : Int) (x1 : Bool) : Option (Int × Int) :=
  bite x1 (
    bnd (F.neg .u64 x0) fun v2 =>
    bnd (F.conv .i64 v2) fun v3 =>
    bnd (F.le x0 9223372036854775808) fun v4 =>
    obind (fixed_checked v3 v4) fun q5 =>
    some q5) (
    bnd (F.conv .i64 x0) fun v6 =>
    bnd (F.le x0 9223372036854775807) fun v7 =>
    obind (fixed_checked v6 v7) fun q8 =>
    some q8)

/-- glazier/fixed.MulDiv -/
def fixed_MulDiv (fl : Nat) (x0 : Int) (x1 : Int) (x2 : Int) : Option (Int × Int) :=
  bnd (F.eq x2 0) fun v3 =>
  bite v3 (
    some (0, 3)) (
    obind (fixed_size x0) fun q4 =>
    obind (fixed_size x1) fun q5 =>
    obind (bits_Mul64 q4 q5) fun q6 =>
    obind (fixed_size x2) fun q7 =>
    bnd (F.ge q6.1 q7) fun v8 =>
    bite v8 (
      some (0, 2)) (
      obind (bits_Div64 fl q6.1 q6.2 q7) fun q9 =>
      bnd (F.lt x0 0) fun v10 =>
      bnd (F.lt x1 0) fun v11 =>
      bnd (F.bne v10 v11) fun v12 =>
      bnd (F.lt x2 0) fun v13 =>
      bnd (F.bne v12 v13) fun v14 =>
      bite v14 (
        bnd (F.gt q9.2 0) fun v15 =>
        bite v15 (
          bnd (F.add .u64 q9.1 1) fun v16 =>
          bnd (F.eq v16 0) fun v17 =>
          bite v17 (
            some (0, 2)) (
            obind (fixed_signed v16 v14) fun q18 =>
            some q18)) (
          obind (fixed_signed q9.1 v14) fun q19 =>
          some q19)) (
        obind (fixed_signed q9.1 v14) fun q20 =>
        some q20)))

/-- glazier/vec.made -/
def vec_made (x0 : Int × Int × Int × Int × Int × Int × Int × Int) : Option (Int × Int × Int × Int × Int × Int × Int × Int) :=
  some x0

/-- glazier/vec.Between -/
def vec_Between (fl : Nat) (x0 : Int × Int × Int × Int × Int × Int × Int × Int) (x1 : Int × Int × Int × Int × Int × Int × Int × Int) (x2 : Int) : Option ((Int × Int × Int × Int × Int × Int × Int × Int) × Bool) :=
  obind (vec_Dist x2 x0) fun q3 =>
  obind (vec_Dist x2 x1) fun q4 =>
  bnd (F.lt x2 0) fun v5 =>
  bite v5 (
    some ((0, (0, (0, (0, (0, (0, (0, 0))))))), false)) (
    bnd (F.ge x2 5) fun v6 =>
    bite v6 (
      some ((0, (0, (0, (0, (0, (0, (0, 0))))))), false)) (
      bnd (F.lt q3 0) fun v7 =>
      bite v7 (
        some ((0, (0, (0, (0, (0, (0, (0, 0))))))), false)) (
        bnd (F.ge q4 0) fun v8 =>
        bite v8 (
          some ((0, (0, (0, (0, (0, (0, (0, 0))))))), false)) (
          obind (vec_row x0) fun q9 =>
          obind (vec_row x1) fun q10 =>
          bnd (F.sub .i64 q10.1 q9.1) fun v11 =>
          bnd (F.sub .i64 q3 q4) fun v12 =>
          obind (fixed_MulDiv fl v11 q3 v12) fun q13 =>
          bnd (F.add .i64 q9.1 q13.1) fun v14 =>
          bnd (F.sub .i64 q10.2.1 q9.2.1) fun v15 =>
          bnd (F.sub .i64 q3 q4) fun v16 =>
          obind (fixed_MulDiv fl v15 q3 v16) fun q17 =>
          bnd (F.add .i64 q9.2.1 q17.1) fun v18 =>
          bnd (F.sub .i64 q10.2.2.1 q9.2.2.1) fun v19 =>
          bnd (F.sub .i64 q3 q4) fun v20 =>
          obind (fixed_MulDiv fl v19 q3 v20) fun q21 =>
          bnd (F.add .i64 q9.2.2.1 q21.1) fun v22 =>
          bnd (F.sub .i64 q10.2.2.2.1 q9.2.2.2.1) fun v23 =>
          bnd (F.sub .i64 q3 q4) fun v24 =>
          obind (fixed_MulDiv fl v23 q3 v24) fun q25 =>
          bnd (F.add .i64 q9.2.2.2.1 q25.1) fun v26 =>
          bnd (F.sub .i64 q10.2.2.2.2.1 q9.2.2.2.2.1) fun v27 =>
          bnd (F.sub .i64 q3 q4) fun v28 =>
          obind (fixed_MulDiv fl v27 q3 v28) fun q29 =>
          bnd (F.add .i64 q9.2.2.2.2.1 q29.1) fun v30 =>
          bnd (F.sub .i64 q10.2.2.2.2.2.1 q9.2.2.2.2.2.1) fun v31 =>
          bnd (F.sub .i64 q3 q4) fun v32 =>
          obind (fixed_MulDiv fl v31 q3 v32) fun q33 =>
          bnd (F.add .i64 q9.2.2.2.2.2.1 q33.1) fun v34 =>
          bnd (F.sub .i64 q10.2.2.2.2.2.2.1 q9.2.2.2.2.2.2.1) fun v35 =>
          bnd (F.sub .i64 q3 q4) fun v36 =>
          obind (fixed_MulDiv fl v35 q3 v36) fun q37 =>
          bnd (F.add .i64 q9.2.2.2.2.2.2.1 q37.1) fun v38 =>
          bnd (F.sub .i64 q10.2.2.2.2.2.2.2 q9.2.2.2.2.2.2.2) fun v39 =>
          bnd (F.sub .i64 q3 q4) fun v40 =>
          obind (fixed_MulDiv fl v39 q3 v40) fun q41 =>
          bnd (F.add .i64 q9.2.2.2.2.2.2.2 q41.1) fun v42 =>
          obind (vec_made (v14, (v18, (v22, (v26, (v30, (v34, (v38, v42)))))))) fun q43 =>
          some (q43, true)))))

/-- glazier/glazierlaw04.shown -/
def glazierlaw04_shown (fl : Nat)  : Option (Bool) :=
  obind (vec_Between fl (0, (0, (0, (2, (0, (0, (0, 0))))))) (0, (0, ((-6), (2, (0, (0, (0, 0))))))) 0) fun q0 =>
  bite q0.2 (
    bnd (F.both (F.eq q0.1.1 0) (F.both (F.eq q0.1.2.1 0) (F.both (F.eq q0.1.2.2.1 (-2)) (F.both (F.eq q0.1.2.2.2.1 2) (F.both (F.eq q0.1.2.2.2.2.1 0) (F.both (F.eq q0.1.2.2.2.2.2.1 0) (F.both (F.eq q0.1.2.2.2.2.2.2.1 0) (F.eq q0.1.2.2.2.2.2.2.2 0)))))))) fun v1 =>
    some v1) (
    some false)

/-- glazier/glazierref04.Fit -/
def glazierref04_Fit (x0 : Int × Int × Int × Int × Int × Int × Int × Int) : Option (Int × Int × Int × Int × Int × Int × Int × Int) :=
  bnd (F.rem x0.1 32769) fun v1 =>
  bnd (F.rem x0.2.1 32769) fun v2 =>
  bnd (F.rem x0.2.2.1 32769) fun v3 =>
  bnd (F.rem x0.2.2.2.1 32768) fun v4 =>
  bnd (F.lt v4 0) fun v5 =>
  bite v5 (
    bnd (F.neg .i64 v4) fun v6 =>
    bnd (F.add .i64 1 v6) fun v7 =>
    bnd (F.rem x0.2.2.2.2.1 4097) fun v8 =>
    bnd (F.rem x0.2.2.2.2.2.1 4097) fun v9 =>
    bnd (F.rem x0.2.2.2.2.2.2.1 4097) fun v10 =>
    bnd (F.rem x0.2.2.2.2.2.2.2 4097) fun v11 =>
    some (v1, (v2, (v3, (v7, (v8, (v9, (v10, v11)))))))) (
    bnd (F.add .i64 1 v4) fun v12 =>
    bnd (F.rem x0.2.2.2.2.1 4097) fun v13 =>
    bnd (F.rem x0.2.2.2.2.2.1 4097) fun v14 =>
    bnd (F.rem x0.2.2.2.2.2.2.1 4097) fun v15 =>
    bnd (F.rem x0.2.2.2.2.2.2.2 4097) fun v16 =>
    some (v1, (v2, (v3, (v12, (v13, (v14, (v15, v16))))))))

/-- glazier/glazierlaw04.VecSides -/
def glazierlaw04_VecSides (fl : Nat) (x0 : Int × Int × Int × Int × Int × Int × Int × Int) : Option (Bool) :=
  obind (glazierlaw04_shown fl) fun q1 =>
  obind (glazierref04_Fit x0) fun q2 =>
  obind (vec_Dist 1 q2) fun q3 =>
  obind (vec_Dist 2 q2) fun q4 =>
  bnd (F.add .i64 q3 q4) fun v5 =>
  bnd (F.mul .i64 8 q2.2.2.2.1) fun v6 =>
  bnd (F.ne v5 v6) fun v7 =>
  bite v7 (
    some false) (
    obind (vec_Dist 3 q2) fun q8 =>
    obind (vec_Dist 4 q2) fun q9 =>
    bnd (F.add .i64 q8 q9) fun v10 =>
    bnd (F.mul .i64 8 q2.2.2.2.1) fun v11 =>
    bnd (F.ne v10 v11) fun v12 =>
    bite v12 (
      some false) (
      obind (vec_Dist 5 q2) fun q13 =>
      bnd (F.ne q13 0) fun v14 =>
      bite v14 (
        some false) (
        obind (vec_Dist (-1) q2) fun q15 =>
        bnd (F.ne q15 0) fun v16 =>
        bite v16 (
          some false) (
          bnd (F.mul .i64 4 q2.2.2.2.1) fun v17 =>
          bnd (F.add .i64 v17 1) fun v18 =>
          bgd (F.nonzero v18) (
            bnd (F.rem q2.1 v18) fun v19 =>
            bnd (F.mul .i64 4 q2.2.2.2.1) fun v20 =>
            bnd (F.add .i64 v20 1) fun v21 =>
            bgd (F.nonzero v21) (
              bnd (F.rem q2.2.1 v21) fun v22 =>
              bnd (F.add .i64 q2.2.2.2.1 1) fun v23 =>
              bgd (F.nonzero v23) (
                bnd (F.rem q2.2.2.1 v23) fun v24 =>
                obind (vec_Dist 0 (v19, (v22, (v24, q2.2.2.2)))) fun q25 =>
                bnd (F.lt q25 0) fun v26 =>
                bite v26 (
                  some false) (
                  obind (vec_Between fl (v19, (v22, (v24, q2.2.2.2))) (v19, (v22, (v24, q2.2.2.2))) 0) fun q27 =>
                  bite q27.2 (
                    some false) (
                    obind (vec_Dist 1 (v19, (v22, (v24, q2.2.2.2)))) fun q28 =>
                    bnd (F.lt q28 0) fun v29 =>
                    bite v29 (
                      some false) (
                      obind (vec_Between fl (v19, (v22, (v24, q2.2.2.2))) (v19, (v22, (v24, q2.2.2.2))) 1) fun q30 =>
                      bite q30.2 (
                        some false) (
                        obind (vec_Dist 2 (v19, (v22, (v24, q2.2.2.2)))) fun q31 =>
                        bnd (F.lt q31 0) fun v32 =>
                        bite v32 (
                          some false) (
                          obind (vec_Between fl (v19, (v22, (v24, q2.2.2.2))) (v19, (v22, (v24, q2.2.2.2))) 2) fun q33 =>
                          bite q33.2 (
                            some false) (
                            obind (vec_Dist 3 (v19, (v22, (v24, q2.2.2.2)))) fun q34 =>
                            bnd (F.lt q34 0) fun v35 =>
                            bite v35 (
                              some false) (
                              obind (vec_Between fl (v19, (v22, (v24, q2.2.2.2))) (v19, (v22, (v24, q2.2.2.2))) 3) fun q36 =>
                              bite q36.2 (
                                some false) (
                                obind (vec_Dist 4 (v19, (v22, (v24, q2.2.2.2)))) fun q37 =>
                                bnd (F.lt q37 0) fun v38 =>
                                bite v38 (
                                  some false) (
                                  obind (vec_Between fl (v19, (v22, (v24, q2.2.2.2))) (v19, (v22, (v24, q2.2.2.2))) 4) fun q39 =>
                                  bite q39.2 (
                                    some false) (
                                    some q1)))))))))))))))))

/-- glazier/glazierlaw04.VecEnds -/
def glazierlaw04_VecEnds (fl : Nat) (x0 : (Int × Int × Int × Int × Int × Int × Int × Int) × Int × Int × Int × Int × Int × Int × Int × Int) (x1 : Int) : Option (Bool) :=
  obind (glazierlaw04_shown fl) fun q2 =>
  bnd (F.conv .i64 x1) fun v3 =>
  bnd (F.rem v3 5) fun v4 =>
  obind (glazierref04_Fit x0.1) fun q5 =>
  obind (glazierref04_Fit x0.2) fun q6 =>
  bnd (F.rem q5.1 100) fun v7 =>
  bnd (F.rem q5.2.1 100) fun v8 =>
  bnd (F.rem q5.2.2.2.1 100) fun v9 =>
  bnd (F.add .i64 1 v9) fun v10 =>
  bnd (F.neg .i64 v10) fun v11 =>
  bnd (F.eq v4 1) fun v12 =>
  bite v12 (
    bnd (F.mul .i64 (-4) v10) fun v13 =>
    obind (vec_Dist v4 (v13, (v8, (v11, (v10, q5.2.2.2.2))))) fun q14 =>
    bnd (F.ne q14 0) fun v15 =>
    bite v15 (
      some false) (
      obind (vec_Between fl (v13, (v8, (v11, (v10, q5.2.2.2.2)))) q6 v4) fun q16 =>
      obind (vec_Dist v4 q6) fun q17 =>
      bnd (F.lt q17 0) fun v18 =>
      obind (vec_Between fl q6 (v13, (v8, (v11, (v10, q5.2.2.2.2)))) v4) fun q19 =>
      obind (vec_Between fl (v13, (v8, (v11, (v10, q5.2.2.2.2)))) q6 5) fun q20 =>
      obind (vec_Between fl (v13, (v8, (v11, (v10, q5.2.2.2.2)))) (q6.1, (q6.2.1, (q6.2.2.1, (q6.2.2.2.1, (0, (0, (0, 0))))))) v4) fun q21 =>
      bite q2 (
        bnd (F.beq q16.2 v18) fun v22 =>
        bite v22 (
          bnd (F.not q16.2) fun v23 =>
          bite v23 (
            bnd (F.not q19.2) fun v24 =>
            bite v24 (
              bnd (F.not q20.2) fun v25 =>
              bite v25 (
                bnd (F.eq q21.1.1 q16.1.1) fun v26 =>
                bite v26 (
                  bnd (F.eq q21.1.2.2.1 q16.1.2.2.1) fun v27 =>
                  bite v27 (
                    bnd (F.eq q21.1.2.2.2.1 q16.1.2.2.2.1) fun v28 =>
                    some v28) (
                    some false)) (
                  some false)) (
                some false)) (
              some false)) (
            bnd (F.both (F.eq q16.1.1 v13) (F.both (F.eq q16.1.2.1 v8) (F.both (F.eq q16.1.2.2.1 v11) (F.both (F.eq q16.1.2.2.2.1 v10) (F.both (F.eq q16.1.2.2.2.2.1 q5.2.2.2.2.1) (F.both (F.eq q16.1.2.2.2.2.2.1 q5.2.2.2.2.2.1) (F.both (F.eq q16.1.2.2.2.2.2.2.1 q5.2.2.2.2.2.2.1) (F.eq q16.1.2.2.2.2.2.2.2 q5.2.2.2.2.2.2.2)))))))) fun v29 =>
            bite v29 (
              bnd (F.not q19.2) fun v30 =>
              bite v30 (
                bnd (F.not q20.2) fun v31 =>
                bite v31 (
                  bnd (F.eq q21.1.1 q16.1.1) fun v32 =>
                  bite v32 (
                    bnd (F.eq q21.1.2.2.1 q16.1.2.2.1) fun v33 =>
                    bite v33 (
                      bnd (F.eq q21.1.2.2.2.1 q16.1.2.2.2.1) fun v34 =>
                      some v34) (
                      some false)) (
                    some false)) (
                  some false)) (
                some false)) (
              some false))) (
          some false)) (
        some false))) (
    bnd (F.eq v4 2) fun v35 =>
    bite v35 (
      bnd (F.mul .i64 4 v10) fun v36 =>
      obind (vec_Dist v4 (v36, (v8, (v11, (v10, q5.2.2.2.2))))) fun q37 =>
      bnd (F.ne q37 0) fun v38 =>
      bite v38 (
        some false) (
        obind (vec_Between fl (v36, (v8, (v11, (v10, q5.2.2.2.2)))) q6 v4) fun q39 =>
        obind (vec_Dist v4 q6) fun q40 =>
        bnd (F.lt q40 0) fun v41 =>
        obind (vec_Between fl q6 (v36, (v8, (v11, (v10, q5.2.2.2.2)))) v4) fun q42 =>
        obind (vec_Between fl (v36, (v8, (v11, (v10, q5.2.2.2.2)))) q6 5) fun q43 =>
        obind (vec_Between fl (v36, (v8, (v11, (v10, q5.2.2.2.2)))) (q6.1, (q6.2.1, (q6.2.2.1, (q6.2.2.2.1, (0, (0, (0, 0))))))) v4) fun q44 =>
        bite q2 (
          bnd (F.beq q39.2 v41) fun v45 =>
          bite v45 (
            bnd (F.not q39.2) fun v46 =>
            bite v46 (
              bnd (F.not q42.2) fun v47 =>
              bite v47 (
                bnd (F.not q43.2) fun v48 =>
                bite v48 (
                  bnd (F.eq q44.1.1 q39.1.1) fun v49 =>
                  bite v49 (
                    bnd (F.eq q44.1.2.2.1 q39.1.2.2.1) fun v50 =>
                    bite v50 (
                      bnd (F.eq q44.1.2.2.2.1 q39.1.2.2.2.1) fun v51 =>
                      some v51) (
                      some false)) (
                    some false)) (
                  some false)) (
                some false)) (
              bnd (F.both (F.eq q39.1.1 v36) (F.both (F.eq q39.1.2.1 v8) (F.both (F.eq q39.1.2.2.1 v11) (F.both (F.eq q39.1.2.2.2.1 v10) (F.both (F.eq q39.1.2.2.2.2.1 q5.2.2.2.2.1) (F.both (F.eq q39.1.2.2.2.2.2.1 q5.2.2.2.2.2.1) (F.both (F.eq q39.1.2.2.2.2.2.2.1 q5.2.2.2.2.2.2.1) (F.eq q39.1.2.2.2.2.2.2.2 q5.2.2.2.2.2.2.2)))))))) fun v52 =>
              bite v52 (
                bnd (F.not q42.2) fun v53 =>
                bite v53 (
                  bnd (F.not q43.2) fun v54 =>
                  bite v54 (
                    bnd (F.eq q44.1.1 q39.1.1) fun v55 =>
                    bite v55 (
                      bnd (F.eq q44.1.2.2.1 q39.1.2.2.1) fun v56 =>
                      bite v56 (
                        bnd (F.eq q44.1.2.2.2.1 q39.1.2.2.2.1) fun v57 =>
                        some v57) (
                        some false)) (
                      some false)) (
                    some false)) (
                  some false)) (
                some false))) (
            some false)) (
          some false))) (
      bnd (F.eq v4 3) fun v58 =>
      bite v58 (
        bnd (F.mul .i64 (-4) v10) fun v59 =>
        obind (vec_Dist v4 (v7, (v59, (v11, (v10, q5.2.2.2.2))))) fun q60 =>
        bnd (F.ne q60 0) fun v61 =>
        bite v61 (
          some false) (
          obind (vec_Between fl (v7, (v59, (v11, (v10, q5.2.2.2.2)))) q6 v4) fun q62 =>
          obind (vec_Dist v4 q6) fun q63 =>
          bnd (F.lt q63 0) fun v64 =>
          obind (vec_Between fl q6 (v7, (v59, (v11, (v10, q5.2.2.2.2)))) v4) fun q65 =>
          obind (vec_Between fl (v7, (v59, (v11, (v10, q5.2.2.2.2)))) q6 5) fun q66 =>
          obind (vec_Between fl (v7, (v59, (v11, (v10, q5.2.2.2.2)))) (q6.1, (q6.2.1, (q6.2.2.1, (q6.2.2.2.1, (0, (0, (0, 0))))))) v4) fun q67 =>
          bite q2 (
            bnd (F.beq q62.2 v64) fun v68 =>
            bite v68 (
              bnd (F.not q62.2) fun v69 =>
              bite v69 (
                bnd (F.not q65.2) fun v70 =>
                bite v70 (
                  bnd (F.not q66.2) fun v71 =>
                  bite v71 (
                    bnd (F.eq q67.1.1 q62.1.1) fun v72 =>
                    bite v72 (
                      bnd (F.eq q67.1.2.2.1 q62.1.2.2.1) fun v73 =>
                      bite v73 (
                        bnd (F.eq q67.1.2.2.2.1 q62.1.2.2.2.1) fun v74 =>
                        some v74) (
                        some false)) (
                      some false)) (
                    some false)) (
                  some false)) (
                bnd (F.both (F.eq q62.1.1 v7) (F.both (F.eq q62.1.2.1 v59) (F.both (F.eq q62.1.2.2.1 v11) (F.both (F.eq q62.1.2.2.2.1 v10) (F.both (F.eq q62.1.2.2.2.2.1 q5.2.2.2.2.1) (F.both (F.eq q62.1.2.2.2.2.2.1 q5.2.2.2.2.2.1) (F.both (F.eq q62.1.2.2.2.2.2.2.1 q5.2.2.2.2.2.2.1) (F.eq q62.1.2.2.2.2.2.2.2 q5.2.2.2.2.2.2.2)))))))) fun v75 =>
                bite v75 (
                  bnd (F.not q65.2) fun v76 =>
                  bite v76 (
                    bnd (F.not q66.2) fun v77 =>
                    bite v77 (
                      bnd (F.eq q67.1.1 q62.1.1) fun v78 =>
                      bite v78 (
                        bnd (F.eq q67.1.2.2.1 q62.1.2.2.1) fun v79 =>
                        bite v79 (
                          bnd (F.eq q67.1.2.2.2.1 q62.1.2.2.2.1) fun v80 =>
                          some v80) (
                          some false)) (
                        some false)) (
                      some false)) (
                    some false)) (
                  some false))) (
              some false)) (
            some false))) (
        bnd (F.eq v4 4) fun v81 =>
        bite v81 (
          bnd (F.mul .i64 4 v10) fun v82 =>
          obind (vec_Dist v4 (v7, (v82, (v11, (v10, q5.2.2.2.2))))) fun q83 =>
          bnd (F.ne q83 0) fun v84 =>
          bite v84 (
            some false) (
            obind (vec_Between fl (v7, (v82, (v11, (v10, q5.2.2.2.2)))) q6 v4) fun q85 =>
            obind (vec_Dist v4 q6) fun q86 =>
            bnd (F.lt q86 0) fun v87 =>
            obind (vec_Between fl q6 (v7, (v82, (v11, (v10, q5.2.2.2.2)))) v4) fun q88 =>
            obind (vec_Between fl (v7, (v82, (v11, (v10, q5.2.2.2.2)))) q6 5) fun q89 =>
            obind (vec_Between fl (v7, (v82, (v11, (v10, q5.2.2.2.2)))) (q6.1, (q6.2.1, (q6.2.2.1, (q6.2.2.2.1, (0, (0, (0, 0))))))) v4) fun q90 =>
            bite q2 (
              bnd (F.beq q85.2 v87) fun v91 =>
              bite v91 (
                bnd (F.not q85.2) fun v92 =>
                bite v92 (
                  bnd (F.not q88.2) fun v93 =>
                  bite v93 (
                    bnd (F.not q89.2) fun v94 =>
                    bite v94 (
                      bnd (F.eq q90.1.1 q85.1.1) fun v95 =>
                      bite v95 (
                        bnd (F.eq q90.1.2.2.1 q85.1.2.2.1) fun v96 =>
                        bite v96 (
                          bnd (F.eq q90.1.2.2.2.1 q85.1.2.2.2.1) fun v97 =>
                          some v97) (
                          some false)) (
                        some false)) (
                      some false)) (
                    some false)) (
                  bnd (F.both (F.eq q85.1.1 v7) (F.both (F.eq q85.1.2.1 v82) (F.both (F.eq q85.1.2.2.1 v11) (F.both (F.eq q85.1.2.2.2.1 v10) (F.both (F.eq q85.1.2.2.2.2.1 q5.2.2.2.2.1) (F.both (F.eq q85.1.2.2.2.2.2.1 q5.2.2.2.2.2.1) (F.both (F.eq q85.1.2.2.2.2.2.2.1 q5.2.2.2.2.2.2.1) (F.eq q85.1.2.2.2.2.2.2.2 q5.2.2.2.2.2.2.2)))))))) fun v98 =>
                  bite v98 (
                    bnd (F.not q88.2) fun v99 =>
                    bite v99 (
                      bnd (F.not q89.2) fun v100 =>
                      bite v100 (
                        bnd (F.eq q90.1.1 q85.1.1) fun v101 =>
                        bite v101 (
                          bnd (F.eq q90.1.2.2.1 q85.1.2.2.1) fun v102 =>
                          bite v102 (
                            bnd (F.eq q90.1.2.2.2.1 q85.1.2.2.2.1) fun v103 =>
                            some v103) (
                            some false)) (
                          some false)) (
                        some false)) (
                      some false)) (
                    some false))) (
                some false)) (
              some false))) (
          obind (vec_Dist v4 (v7, (v8, (v11, (v10, q5.2.2.2.2))))) fun q104 =>
          bnd (F.ne q104 0) fun v105 =>
          bite v105 (
            some false) (
            obind (vec_Between fl (v7, (v8, (v11, (v10, q5.2.2.2.2)))) q6 v4) fun q106 =>
            obind (vec_Dist v4 q6) fun q107 =>
            bnd (F.lt q107 0) fun v108 =>
            obind (vec_Between fl q6 (v7, (v8, (v11, (v10, q5.2.2.2.2)))) v4) fun q109 =>
            obind (vec_Between fl (v7, (v8, (v11, (v10, q5.2.2.2.2)))) q6 5) fun q110 =>
            obind (vec_Between fl (v7, (v8, (v11, (v10, q5.2.2.2.2)))) (q6.1, (q6.2.1, (q6.2.2.1, (q6.2.2.2.1, (0, (0, (0, 0))))))) v4) fun q111 =>
            bite q2 (
              bnd (F.beq q106.2 v108) fun v112 =>
              bite v112 (
                bnd (F.not q106.2) fun v113 =>
                bite v113 (
                  bnd (F.not q109.2) fun v114 =>
                  bite v114 (
                    bnd (F.not q110.2) fun v115 =>
                    bite v115 (
                      bnd (F.eq q111.1.1 q106.1.1) fun v116 =>
                      bite v116 (
                        bnd (F.eq q111.1.2.2.1 q106.1.2.2.1) fun v117 =>
                        bite v117 (
                          bnd (F.eq q111.1.2.2.2.1 q106.1.2.2.2.1) fun v118 =>
                          some v118) (
                          some false)) (
                        some false)) (
                      some false)) (
                    some false)) (
                  bnd (F.both (F.eq q106.1.1 v7) (F.both (F.eq q106.1.2.1 v8) (F.both (F.eq q106.1.2.2.1 v11) (F.both (F.eq q106.1.2.2.2.1 v10) (F.both (F.eq q106.1.2.2.2.2.1 q5.2.2.2.2.1) (F.both (F.eq q106.1.2.2.2.2.2.1 q5.2.2.2.2.2.1) (F.both (F.eq q106.1.2.2.2.2.2.2.1 q5.2.2.2.2.2.2.1) (F.eq q106.1.2.2.2.2.2.2.2 q5.2.2.2.2.2.2.2)))))))) fun v119 =>
                  bite v119 (
                    bnd (F.not q109.2) fun v120 =>
                    bite v120 (
                      bnd (F.not q110.2) fun v121 =>
                      bite v121 (
                        bnd (F.eq q111.1.1 q106.1.1) fun v122 =>
                        bite v122 (
                          bnd (F.eq q111.1.2.2.1 q106.1.2.2.1) fun v123 =>
                          bite v123 (
                            bnd (F.eq q111.1.2.2.2.1 q106.1.2.2.2.1) fun v124 =>
                            some v124) (
                            some false)) (
                          some false)) (
                        some false)) (
                      some false)) (
                    some false))) (
                some false)) (
              some false))))))

/-- glazier/glazierlaw04.VecSums -/
def glazierlaw04_VecSums (fl : Nat) (x0 : (Int × Int × Int × Int × Int × Int × Int × Int) × Int × Int × Int × Int × Int × Int × Int × Int) (x1 : Int) : Option (Bool) :=
  obind (glazierlaw04_shown fl) fun q2 =>
  obind (glazierref04_Fit x0.1) fun q3 =>
  obind (glazierref04_Fit x0.2) fun q4 =>
  bnd (F.conv .i64 x1) fun v5 =>
  bnd (F.rem v5 16) fun v6 =>
  bnd (F.add .i64 q3.1 q4.1) fun v7 =>
  bnd (F.add .i64 q3.2.1 q4.2.1) fun v8 =>
  bnd (F.add .i64 q3.2.2.1 q4.2.2.1) fun v9 =>
  bnd (F.add .i64 q3.2.2.2.1 q4.2.2.2.1) fun v10 =>
  bnd (F.mul .i64 v6 q3.1) fun v11 =>
  bnd (F.mul .i64 v6 q3.2.1) fun v12 =>
  bnd (F.mul .i64 v6 q3.2.2.1) fun v13 =>
  bnd (F.mul .i64 v6 q3.2.2.2.1) fun v14 =>
  obind (vec_Dist 0 (v7, (v8, (v9, (v10, (0, (0, (0, 0)))))))) fun q15 =>
  obind (vec_Dist 0 q3) fun q16 =>
  obind (vec_Dist 0 q4) fun q17 =>
  bnd (F.add .i64 q16 q17) fun v18 =>
  bnd (F.ne q15 v18) fun v19 =>
  bite v19 (
    some false) (
    obind (vec_Dist 0 (v11, (v12, (v13, (v14, (0, (0, (0, 0)))))))) fun q20 =>
    obind (vec_Dist 0 q3) fun q21 =>
    bnd (F.mul .i64 v6 q21) fun v22 =>
    bnd (F.ne q20 v22) fun v23 =>
    bite v23 (
      some false) (
      obind (vec_Dist 1 (v7, (v8, (v9, (v10, (0, (0, (0, 0)))))))) fun q24 =>
      obind (vec_Dist 1 q3) fun q25 =>
      obind (vec_Dist 1 q4) fun q26 =>
      bnd (F.add .i64 q25 q26) fun v27 =>
      bnd (F.ne q24 v27) fun v28 =>
      bite v28 (
        some false) (
        obind (vec_Dist 1 (v11, (v12, (v13, (v14, (0, (0, (0, 0)))))))) fun q29 =>
        obind (vec_Dist 1 q3) fun q30 =>
        bnd (F.mul .i64 v6 q30) fun v31 =>
        bnd (F.ne q29 v31) fun v32 =>
        bite v32 (
          some false) (
          obind (vec_Dist 2 (v7, (v8, (v9, (v10, (0, (0, (0, 0)))))))) fun q33 =>
          obind (vec_Dist 2 q3) fun q34 =>
          obind (vec_Dist 2 q4) fun q35 =>
          bnd (F.add .i64 q34 q35) fun v36 =>
          bnd (F.ne q33 v36) fun v37 =>
          bite v37 (
            some false) (
            obind (vec_Dist 2 (v11, (v12, (v13, (v14, (0, (0, (0, 0)))))))) fun q38 =>
            obind (vec_Dist 2 q3) fun q39 =>
            bnd (F.mul .i64 v6 q39) fun v40 =>
            bnd (F.ne q38 v40) fun v41 =>
            bite v41 (
              some false) (
              obind (vec_Dist 3 (v7, (v8, (v9, (v10, (0, (0, (0, 0)))))))) fun q42 =>
              obind (vec_Dist 3 q3) fun q43 =>
              obind (vec_Dist 3 q4) fun q44 =>
              bnd (F.add .i64 q43 q44) fun v45 =>
              bnd (F.ne q42 v45) fun v46 =>
              bite v46 (
                some false) (
                obind (vec_Dist 3 (v11, (v12, (v13, (v14, (0, (0, (0, 0)))))))) fun q47 =>
                obind (vec_Dist 3 q3) fun q48 =>
                bnd (F.mul .i64 v6 q48) fun v49 =>
                bnd (F.ne q47 v49) fun v50 =>
                bite v50 (
                  some false) (
                  obind (vec_Dist 4 (v7, (v8, (v9, (v10, (0, (0, (0, 0)))))))) fun q51 =>
                  obind (vec_Dist 4 q3) fun q52 =>
                  obind (vec_Dist 4 q4) fun q53 =>
                  bnd (F.add .i64 q52 q53) fun v54 =>
                  bnd (F.ne q51 v54) fun v55 =>
                  bite v55 (
                    some false) (
                    obind (vec_Dist 4 (v11, (v12, (v13, (v14, (0, (0, (0, 0)))))))) fun q56 =>
                    obind (vec_Dist 4 q3) fun q57 =>
                    bnd (F.mul .i64 v6 q57) fun v58 =>
                    bnd (F.ne q56 v58) fun v59 =>
                    bite v59 (
                      some false) (
                      bite q2 (
                        obind (vec_Dist 0 (0, (0, (3, (4, (0, (0, (0, 0)))))))) fun q60 =>
                        bnd (F.eq q60 7) fun v61 =>
                        bite v61 (
                          obind (vec_Dist 2 (3, (0, (0, (4, (0, (0, (0, 0)))))))) fun q62 =>
                          bnd (F.eq q62 13) fun v63 =>
                          bite v63 (
                            obind (vec_Dist 4 (0, (3, (0, (4, (0, (0, (0, 0)))))))) fun q64 =>
                            bnd (F.eq q64 13) fun v65 =>
                            some v65) (
                            some false)) (
                          some false)) (
                        some false)))))))))))

/-- glazier/glazierref04.Small -/
def glazierref04_Small (x0 : Int × Int × Int × Int × Int × Int × Int × Int) : Option (Int × Int × Int × Int × Int × Int × Int × Int) :=
  bnd (F.rem x0.1 1048577) fun v1 =>
  bnd (F.rem x0.2.1 1048577) fun v2 =>
  bnd (F.rem x0.2.2.1 1048577) fun v3 =>
  bnd (F.rem x0.2.2.2.1 1048577) fun v4 =>
  bnd (F.rem x0.2.2.2.2.1 1048577) fun v5 =>
  bnd (F.rem x0.2.2.2.2.2.1 1048577) fun v6 =>
  bnd (F.rem x0.2.2.2.2.2.2.1 1048577) fun v7 =>
  bnd (F.rem x0.2.2.2.2.2.2.2 1048577) fun v8 =>
  some (v1, (v2, (v3, (v4, (v5, (v6, (v7, v8)))))))

/-- glazier/glazierref04.Dist -/
def glazierref04_Dist (x0 : Int) (x1 : Int × Int × Int × Int × Int × Int × Int × Int) : Option (Int) :=
  bnd (F.eq x0 0) fun v2 =>
  bite v2 (
    bnd (F.add .i64 x1.2.2.1 x1.2.2.2.1) fun v3 =>
    some v3) (
    bnd (F.eq x0 1) fun v4 =>
    bite v4 (
      bnd (F.mul .i64 4 x1.2.2.2.1) fun v5 =>
      bnd (F.add .i64 v5 x1.1) fun v6 =>
      some v6) (
      bnd (F.eq x0 2) fun v7 =>
      bite v7 (
        bnd (F.mul .i64 4 x1.2.2.2.1) fun v8 =>
        bnd (F.sub .i64 v8 x1.1) fun v9 =>
        some v9) (
        bnd (F.eq x0 3) fun v10 =>
        bite v10 (
          bnd (F.mul .i64 4 x1.2.2.2.1) fun v11 =>
          bnd (F.add .i64 v11 x1.2.1) fun v12 =>
          some v12) (
          bnd (F.eq x0 4) fun v13 =>
          bite v13 (
            bnd (F.mul .i64 4 x1.2.2.2.1) fun v14 =>
            bnd (F.sub .i64 v14 x1.2.1) fun v15 =>
            some v15) (
            some 0)))))

/-- glazier/glazierref01.size -/
def glazierref01_size (x0 : Int) : Option (Int) :=
  bnd (F.lt x0 0) fun v1 =>
  bite v1 (
    bnd (F.conv .u64 x0) fun v2 =>
    bnd (F.sub .u64 0 v2) fun v3 =>
    some v3) (
    bnd (F.conv .u64 x0) fun v4 =>
    some v4)

def glazierref01_times_l1 (fl : Nat) : Nat → Int → Int → Int → Int → Int → Int → Int → Option (Int × Int × Int × Int × Unit)
  | 0, _, _, _, _, _, _, _ => none
  | n + 1, x0, x1, x2, x3, x4, x5, x6 =>
    bnd (F.ge x6 0) fun v7 =>
    bite v7 (
      bnd (F.mul .u64 x4 2) fun v8 =>
      bnd (F.quo .u64 x5 9223372036854775808) fun v9 =>
      bnd (F.add .u64 v8 v9) fun v10 =>
      bnd (F.mul .u64 x5 2) fun v11 =>
      bgd (F.nonneg x6) (
        bnd (F.shr .u64 x2 x6) fun v12 =>
        bnd (F.rem v12 2) fun v13 =>
        bnd (F.eq v13 1) fun v14 =>
        bite v14 (
          bnd (F.add .u64 v11 x3) fun v15 =>
          bnd (F.lt v15 v11) fun v16 =>
          bite v16 (
            bnd (F.add .u64 v10 1) fun v17 =>
            bnd (F.sub .i64 x6 1) fun v18 =>
            glazierref01_times_l1 fl n x0 x1 x2 x3 v17 v15 v18) (
            bnd (F.sub .i64 x6 1) fun v19 =>
            glazierref01_times_l1 fl n x0 x1 x2 x3 v10 v15 v19)) (
          bnd (F.sub .i64 x6 1) fun v20 =>
          glazierref01_times_l1 fl n x0 x1 x2 x3 v10 v11 v20))) (
      some (x0, (x1, (x4, (x5, ())))))

/-- glazier/glazierref01.times -/
def glazierref01_times (fl : Nat) (x0 : Int) (x1 : Int) : Option (Int × Int × Bool) :=
  obind (glazierref01_size x0) fun q2 =>
  obind (glazierref01_size x1) fun q3 =>
  obind (glazierref01_times_l1 fl fl x0 x1 q2 q3 0 0 63) fun q4 =>
  bnd (F.lt q4.1 0) fun v5 =>
  bnd (F.lt q4.2.1 0) fun v6 =>
  bnd (F.bne v5 v6) fun v7 =>
  bite v7 (
    bnd (F.gt q4.2.2.1 0) fun v8 =>
    bite v8 (
      some (q4.2.2.1, (q4.2.2.2.1, true))) (
      bnd (F.gt q4.2.2.2.1 0) fun v9 =>
      some (q4.2.2.1, (q4.2.2.2.1, v9)))) (
    some (q4.2.2.1, (q4.2.2.2.1, false)))

def glazierref01_parts_l1 (fl : Nat) : Nat → Int → Int → Int → Int → Int → Int → Int → Bool → Option (Int × Int × Int × Unit)
  | 0, _, _, _, _, _, _, _, _ => none
  | n + 1, x0, x1, x2, x3, x4, x5, x6, x7 =>
    bnd (F.ge x4 0) fun v8 =>
    bite v8 (
      bnd (F.gt x4 63) fun v9 =>
      bite v9 (
        bnd (F.sub .i64 x4 64) fun v10 =>
        bgd (F.nonneg v10) (
          bnd (F.shr .u64 x5 v10) fun v11 =>
          bnd (F.rem v11 2) fun v12 =>
          bnd (F.ge x3 9223372036854775808) fun v13 =>
          bnd (F.mul .u64 x3 2) fun v14 =>
          bnd (F.add .u64 v14 v12) fun v15 =>
          bnd (F.mul .u64 x1 2) fun v16 =>
          bnd (F.quo .u64 x2 9223372036854775808) fun v17 =>
          bnd (F.add .u64 v16 v17) fun v18 =>
          bnd (F.mul .u64 x2 2) fun v19 =>
          bite v13 (
            bnd (F.sub .u64 v15 x0) fun v20 =>
            bnd (F.add .u64 v19 1) fun v21 =>
            bnd (F.sub .i64 x4 1) fun v22 =>
            glazierref01_parts_l1 fl n x0 v18 v21 v20 v22 x5 x6 x7) (
            bnd (F.ge v15 x0) fun v23 =>
            bite v23 (
              bnd (F.sub .u64 v15 x0) fun v24 =>
              bnd (F.add .u64 v19 1) fun v25 =>
              bnd (F.sub .i64 x4 1) fun v26 =>
              glazierref01_parts_l1 fl n x0 v18 v25 v24 v26 x5 x6 x7) (
              bnd (F.sub .i64 x4 1) fun v27 =>
              glazierref01_parts_l1 fl n x0 v18 v19 v15 v27 x5 x6 x7)))) (
        bgd (F.nonneg x4) (
          bnd (F.shr .u64 x6 x4) fun v28 =>
          bnd (F.rem v28 2) fun v29 =>
          bnd (F.ge x3 9223372036854775808) fun v30 =>
          bnd (F.mul .u64 x3 2) fun v31 =>
          bnd (F.add .u64 v31 v29) fun v32 =>
          bnd (F.mul .u64 x1 2) fun v33 =>
          bnd (F.quo .u64 x2 9223372036854775808) fun v34 =>
          bnd (F.add .u64 v33 v34) fun v35 =>
          bnd (F.mul .u64 x2 2) fun v36 =>
          bite v30 (
            bnd (F.sub .u64 v32 x0) fun v37 =>
            bnd (F.add .u64 v36 1) fun v38 =>
            bnd (F.sub .i64 x4 1) fun v39 =>
            glazierref01_parts_l1 fl n x0 v35 v38 v37 v39 x5 x6 x7) (
            bnd (F.ge v32 x0) fun v40 =>
            bite v40 (
              bnd (F.sub .u64 v32 x0) fun v41 =>
              bnd (F.add .u64 v36 1) fun v42 =>
              bnd (F.sub .i64 x4 1) fun v43 =>
              glazierref01_parts_l1 fl n x0 v35 v42 v41 v43 x5 x6 x7) (
              bnd (F.sub .i64 x4 1) fun v44 =>
              glazierref01_parts_l1 fl n x0 v35 v36 v32 v44 x5 x6 x7))))) (
      some (x1, (x2, (x3, ()))))

/-- glazier/glazierref01.parts -/
def glazierref01_parts (fl : Nat) (x0 : Int × Int × Bool) (x1 : Int) : Option (Int × Int × Int) :=
  obind (glazierref01_parts_l1 fl fl x1 0 0 0 127 x0.1 x0.2.1 x0.2.2) fun q2 =>
  some (q2.1, (q2.2.1, q2.2.2.1))

/-- glazier/glazierref01.told -/
def glazierref01_told (x0 : Int) (x1 : Int) (x2 : Bool) : Option (Int × Int) :=
  bite x2 (
    bnd (F.gt x0 0) fun v3 =>
    bite v3 (
      some (0, 2)) (
      bnd (F.gt x1 9223372036854775808) fun v4 =>
      bite v4 (
        some (0, 2)) (
        bite x2 (
          bnd (F.sub .u64 0 x1) fun v5 =>
          bnd (F.conv .i64 v5) fun v6 =>
          some (v6, 0)) (
          bnd (F.conv .i64 x1) fun v7 =>
          some (v7, 0))))) (
    bnd (F.gt x0 0) fun v8 =>
    bite v8 (
      some (0, 2)) (
      bnd (F.gt x1 9223372036854775807) fun v9 =>
      bite v9 (
        some (0, 2)) (
        bite x2 (
          bnd (F.sub .u64 0 x1) fun v10 =>
          bnd (F.conv .i64 v10) fun v11 =>
          some (v11, 0)) (
          bnd (F.conv .i64 x1) fun v12 =>
          some (v12, 0)))))

/-- glazier/glazierref01.MulDiv -/
def glazierref01_MulDiv (fl : Nat) (x0 : Int) (x1 : Int) (x2 : Int) : Option (Int × Int) :=
  bnd (F.eq x2 0) fun v3 =>
  bite v3 (
    some (0, 3)) (
    obind (glazierref01_times fl x0 x1) fun q4 =>
    bnd (F.lt x2 0) fun v5 =>
    bnd (F.bne q4.2.2 v5) fun v6 =>
    bite v6 (
      bnd (F.gt q4.1 0) fun v7 =>
      bite v7 (
        obind (glazierref01_size x2) fun q8 =>
        obind (glazierref01_parts fl q4 q8) fun q9 =>
        bnd (F.gt q9.2.2 0) fun v10 =>
        bite v10 (
          bnd (F.add .u64 q9.2.1 1) fun v11 =>
          bnd (F.eq v11 0) fun v12 =>
          bite v12 (
            bnd (F.add .u64 q9.1 1) fun v13 =>
            obind (glazierref01_told v13 v11 true) fun q14 =>
            some q14) (
            obind (glazierref01_told q9.1 v11 true) fun q15 =>
            some q15)) (
          obind (glazierref01_told q9.1 q9.2.1 true) fun q16 =>
          some q16)) (
        bnd (F.gt q4.2.1 0) fun v17 =>
        obind (glazierref01_size x2) fun q18 =>
        obind (glazierref01_parts fl q4 q18) fun q19 =>
        bite v17 (
          bnd (F.gt q19.2.2 0) fun v20 =>
          bite v20 (
            bnd (F.add .u64 q19.2.1 1) fun v21 =>
            bnd (F.eq v21 0) fun v22 =>
            bite v22 (
              bnd (F.add .u64 q19.1 1) fun v23 =>
              obind (glazierref01_told v23 v21 v17) fun q24 =>
              some q24) (
              obind (glazierref01_told q19.1 v21 v17) fun q25 =>
              some q25)) (
            obind (glazierref01_told q19.1 q19.2.1 v17) fun q26 =>
            some q26)) (
          obind (glazierref01_told q19.1 q19.2.1 v17) fun q27 =>
          some q27))) (
      obind (glazierref01_size x2) fun q28 =>
      obind (glazierref01_parts fl q4 q28) fun q29 =>
      obind (glazierref01_told q29.1 q29.2.1 false) fun q30 =>
      some q30))

/-- glazier/glazierref01.Floor -/
def glazierref01_Floor (fl : Nat) (x0 : Int) (x1 : Int) : Option (Int × Int) :=
  obind (glazierref01_MulDiv fl x0 1 x1) fun q2 =>
  some q2

/-- glazier/glazierref01.Down -/
def glazierref01_Down (fl : Nat) (x0 : Int) (x1 : Int) : Option (Int) :=
  obind (glazierref01_Floor fl x0 x1) fun q2 =>
  some q2.1

/-- glazier/glazierref04.Between -/
def glazierref04_Between (fl : Nat) (x0 : Int × Int × Int × Int × Int × Int × Int × Int) (x1 : Int × Int × Int × Int × Int × Int × Int × Int) (x2 : Int) : Option ((Int × Int × Int × Int × Int × Int × Int × Int) × Bool) :=
  obind (glazierref04_Dist x2 x0) fun q3 =>
  obind (glazierref04_Dist x2 x1) fun q4 =>
  bnd (F.lt x2 0) fun v5 =>
  bite v5 (
    some ((0, (0, (0, (0, (0, (0, (0, 0))))))), false)) (
    bnd (F.gt x2 4) fun v6 =>
    bite v6 (
      some ((0, (0, (0, (0, (0, (0, (0, 0))))))), false)) (
      bnd (F.lt q3 0) fun v7 =>
      bite v7 (
        some ((0, (0, (0, (0, (0, (0, (0, 0))))))), false)) (
        bnd (F.ge q4 0) fun v8 =>
        bite v8 (
          some ((0, (0, (0, (0, (0, (0, (0, 0))))))), false)) (
          bnd (F.sub .i64 x1.1 x0.1) fun v9 =>
          bnd (F.mul .i64 v9 q3) fun v10 =>
          bnd (F.sub .i64 q3 q4) fun v11 =>
          obind (glazierref01_Down fl v10 v11) fun q12 =>
          bnd (F.add .i64 x0.1 q12) fun v13 =>
          bnd (F.sub .i64 x1.2.1 x0.2.1) fun v14 =>
          bnd (F.mul .i64 v14 q3) fun v15 =>
          bnd (F.sub .i64 q3 q4) fun v16 =>
          obind (glazierref01_Down fl v15 v16) fun q17 =>
          bnd (F.add .i64 x0.2.1 q17) fun v18 =>
          bnd (F.sub .i64 x1.2.2.1 x0.2.2.1) fun v19 =>
          bnd (F.mul .i64 v19 q3) fun v20 =>
          bnd (F.sub .i64 q3 q4) fun v21 =>
          obind (glazierref01_Down fl v20 v21) fun q22 =>
          bnd (F.add .i64 x0.2.2.1 q22) fun v23 =>
          bnd (F.sub .i64 x1.2.2.2.1 x0.2.2.2.1) fun v24 =>
          bnd (F.mul .i64 v24 q3) fun v25 =>
          bnd (F.sub .i64 q3 q4) fun v26 =>
          obind (glazierref01_Down fl v25 v26) fun q27 =>
          bnd (F.add .i64 x0.2.2.2.1 q27) fun v28 =>
          bnd (F.sub .i64 x1.2.2.2.2.1 x0.2.2.2.2.1) fun v29 =>
          bnd (F.mul .i64 v29 q3) fun v30 =>
          bnd (F.sub .i64 q3 q4) fun v31 =>
          obind (glazierref01_Down fl v30 v31) fun q32 =>
          bnd (F.add .i64 x0.2.2.2.2.1 q32) fun v33 =>
          bnd (F.sub .i64 x1.2.2.2.2.2.1 x0.2.2.2.2.2.1) fun v34 =>
          bnd (F.mul .i64 v34 q3) fun v35 =>
          bnd (F.sub .i64 q3 q4) fun v36 =>
          obind (glazierref01_Down fl v35 v36) fun q37 =>
          bnd (F.add .i64 x0.2.2.2.2.2.1 q37) fun v38 =>
          bnd (F.sub .i64 x1.2.2.2.2.2.2.1 x0.2.2.2.2.2.2.1) fun v39 =>
          bnd (F.mul .i64 v39 q3) fun v40 =>
          bnd (F.sub .i64 q3 q4) fun v41 =>
          obind (glazierref01_Down fl v40 v41) fun q42 =>
          bnd (F.add .i64 x0.2.2.2.2.2.2.1 q42) fun v43 =>
          bnd (F.sub .i64 x1.2.2.2.2.2.2.2 x0.2.2.2.2.2.2.2) fun v44 =>
          bnd (F.mul .i64 v44 q3) fun v45 =>
          bnd (F.sub .i64 q3 q4) fun v46 =>
          obind (glazierref01_Down fl v45 v46) fun q47 =>
          bnd (F.add .i64 x0.2.2.2.2.2.2.2 q47) fun v48 =>
          some ((v13, (v18, (v23, (v28, (v33, (v38, (v43, v48))))))), true)))))

/-- glazier/vec.held -/
def vec_held (x0 : Int × Int × Int × Int × Int × Int × Int × Int) : Option (Int × Int × Int × Int × Int × Int × Int × Int) :=
  bnd (F.max x0.1 (-32768)) fun v1 =>
  bnd (F.min v1 32768) fun v2 =>
  bnd (F.max x0.2.1 (-32768)) fun v3 =>
  bnd (F.min v3 32768) fun v4 =>
  bnd (F.max x0.2.2.1 (-32768)) fun v5 =>
  bnd (F.min v5 32768) fun v6 =>
  bnd (F.max x0.2.2.2.1 (-32768)) fun v7 =>
  bnd (F.min v7 32768) fun v8 =>
  bnd (F.max x0.2.2.2.2.1 (-4096)) fun v9 =>
  bnd (F.min v9 4096) fun v10 =>
  bnd (F.max x0.2.2.2.2.2.1 (-4096)) fun v11 =>
  bnd (F.min v11 4096) fun v12 =>
  bnd (F.max x0.2.2.2.2.2.2.1 (-4096)) fun v13 =>
  bnd (F.min v13 4096) fun v14 =>
  bnd (F.max x0.2.2.2.2.2.2.2 (-4096)) fun v15 =>
  bnd (F.min v15 4096) fun v16 =>
  some (v2, (v4, (v6, (v8, (v10, (v12, (v14, v16)))))))

/-- glazier/vec.Right -/
def vec_Right (x0 : Int × Int × Int × Int × Int × Int × Int × Int) : Option (Bool) :=
  obind (vec_row x0) fun q1 =>
  obind (vec_held q1) fun q2 =>
  bnd (F.both (F.eq q2.1 q1.1) (F.both (F.eq q2.2.1 q1.2.1) (F.both (F.eq q2.2.2.1 q1.2.2.1) (F.both (F.eq q2.2.2.2.1 q1.2.2.2.1) (F.both (F.eq q2.2.2.2.2.1 q1.2.2.2.2.1) (F.both (F.eq q2.2.2.2.2.2.1 q1.2.2.2.2.2.1) (F.both (F.eq q2.2.2.2.2.2.2.1 q1.2.2.2.2.2.2.1) (F.eq q2.2.2.2.2.2.2.2 q1.2.2.2.2.2.2.2)))))))) fun v3 =>
  bite v3 (
    bnd (F.gt x0.2.2.2.1 0) fun v4 =>
    some v4) (
    some false)

/-- glazier/glazierref04.within -/
def glazierref04_within (x0 : Int) (x1 : Int) : Option (Bool) :=
  bnd (F.neg .i64 x1) fun v2 =>
  bnd (F.ge x0 v2) fun v3 =>
  bite v3 (
    bnd (F.le x0 x1) fun v4 =>
    some v4) (
    some false)

/-- glazier/glazierref04.Right -/
def glazierref04_Right (x0 : Int × Int × Int × Int × Int × Int × Int × Int) : Option (Bool) :=
  bnd (F.lt x0.2.2.2.2.1 (-4096)) fun v1 =>
  bite v1 (
    some false) (
    bnd (F.gt x0.2.2.2.2.1 4096) fun v2 =>
    bite v2 (
      some false) (
      bnd (F.lt x0.2.2.2.2.2.1 (-4096)) fun v3 =>
      bite v3 (
        some false) (
        bnd (F.gt x0.2.2.2.2.2.1 4096) fun v4 =>
        bite v4 (
          some false) (
          bnd (F.lt x0.2.2.2.2.2.2.1 (-4096)) fun v5 =>
          bite v5 (
            some false) (
            bnd (F.gt x0.2.2.2.2.2.2.1 4096) fun v6 =>
            bite v6 (
              some false) (
              bnd (F.lt x0.2.2.2.2.2.2.2 (-4096)) fun v7 =>
              bite v7 (
                some false) (
                bnd (F.gt x0.2.2.2.2.2.2.2 4096) fun v8 =>
                bite v8 (
                  some false) (
                  obind (glazierref04_within x0.1 32768) fun q9 =>
                  obind (glazierref04_within x0.2.1 32768) fun q10 =>
                  obind (glazierref04_within x0.2.2.1 32768) fun q11 =>
                  bite q9 (
                    bite q10 (
                      bite q11 (
                        bnd (F.ge x0.2.2.2.1 1) fun v12 =>
                        bite v12 (
                          bnd (F.le x0.2.2.2.1 32768) fun v13 =>
                          some v13) (
                          some false)) (
                        some false)) (
                      some false)) (
                    some false)))))))))

/-- glazier/glazierlaw04.VecAll -/
def glazierlaw04_VecAll (fl : Nat) (x0 : Int × Int × Int × Int × Int × Int × Int × Int) (x1 : (Int × Int × Int × Int × Int × Int × Int × Int) × Int × Int × Int × Int × Int × Int × Int × Int) (x2 : Int) : Option (Bool) :=
  obind (glazierlaw04_shown fl) fun q3 =>
  obind (glazierref04_Small x1.1) fun q4 =>
  obind (glazierref04_Small x1.2) fun q5 =>
  obind (vec_Between fl q4 q5 x2) fun q6 =>
  obind (glazierref04_Between fl q4 q5 x2) fun q7 =>
  bite q3 (
    obind (vec_Right x0) fun q8 =>
    obind (glazierref04_Right x0) fun q9 =>
    bnd (F.beq q8 q9) fun v10 =>
    bite v10 (
      obind (vec_Right q4) fun q11 =>
      obind (glazierref04_Right q4) fun q12 =>
      bnd (F.beq q11 q12) fun v13 =>
      bite v13 (
        obind (vec_Dist x2 q4) fun q14 =>
        obind (glazierref04_Dist x2 q4) fun q15 =>
        bnd (F.eq q14 q15) fun v16 =>
        bite v16 (
          bnd (F.both (F.eq q6.1.1 q7.1.1) (F.both (F.eq q6.1.2.1 q7.1.2.1) (F.both (F.eq q6.1.2.2.1 q7.1.2.2.1) (F.both (F.eq q6.1.2.2.2.1 q7.1.2.2.2.1) (F.both (F.eq q6.1.2.2.2.2.1 q7.1.2.2.2.2.1) (F.both (F.eq q6.1.2.2.2.2.2.1 q7.1.2.2.2.2.2.1) (F.both (F.eq q6.1.2.2.2.2.2.2.1 q7.1.2.2.2.2.2.2.1) (F.eq q6.1.2.2.2.2.2.2.2 q7.1.2.2.2.2.2.2.2)))))))) fun v17 =>
          bite v17 (
            bnd (F.beq q6.2 q7.2) fun v18 =>
            some v18) (
            some false)) (
          some false)) (
        some false)) (
      some false)) (
    some false)

/-- glazier/glazierlaw04.VecBetween -/
def glazierlaw04_VecBetween (fl : Nat) (x0 : (Int × Int × Int × Int × Int × Int × Int × Int) × Int × Int × Int × Int × Int × Int × Int × Int) (x1 : Int) : Option (Bool) :=
  obind (glazierlaw04_shown fl) fun q2 =>
  bnd (F.conv .i64 x1) fun v3 =>
  bnd (F.rem v3 5) fun v4 =>
  obind (glazierref04_Fit x0.1) fun q5 =>
  obind (glazierref04_Fit x0.2) fun q6 =>
  obind (vec_Dist v4 q5) fun q7 =>
  obind (vec_Dist v4 q6) fun q8 =>
  obind (vec_Between fl q5 q6 v4) fun q9 =>
  bnd (F.ge q7 0) fun v10 =>
  bite v10 (
    bnd (F.lt q8 0) fun v11 =>
    bnd (F.bne q9.2 v11) fun v12 =>
    bite v12 (
      some false) (
      obind (vec_Right q5) fun q13 =>
      bnd (F.not q13) fun v14 =>
      bite v14 (
        some false) (
        obind (vec_Right q6) fun q15 =>
        bnd (F.not q15) fun v16 =>
        bite v16 (
          some false) (
          bnd (F.not q9.2) fun v17 =>
          bite v17 (
            bite q2 (
              bnd (F.both (F.eq q9.1.1 0) (F.both (F.eq q9.1.2.1 0) (F.both (F.eq q9.1.2.2.1 0) (F.both (F.eq q9.1.2.2.2.1 0) (F.both (F.eq q9.1.2.2.2.2.1 0) (F.both (F.eq q9.1.2.2.2.2.2.1 0) (F.both (F.eq q9.1.2.2.2.2.2.2.1 0) (F.eq q9.1.2.2.2.2.2.2.2 0)))))))) fun v18 =>
              some v18) (
              some false)) (
            bnd (F.min q5.1 q6.1) fun v19 =>
            bnd (F.ge q9.1.1 v19) fun v20 =>
            bite v20 (
              bnd (F.max q5.1 q6.1) fun v21 =>
              bnd (F.le q9.1.1 v21) fun v22 =>
              bnd (F.min q5.2.2.2.1 q6.2.2.2.1) fun v23 =>
              bnd (F.ge q9.1.2.2.2.1 v23) fun v24 =>
              bite v24 (
                bnd (F.max q5.2.2.2.1 q6.2.2.2.1) fun v25 =>
                bnd (F.le q9.1.2.2.2.1 v25) fun v26 =>
                bnd (F.min q5.2.2.2.2.2.2.1 q6.2.2.2.2.2.2.1) fun v27 =>
                bnd (F.ge q9.1.2.2.2.2.2.2.1 v27) fun v28 =>
                bite v28 (
                  bnd (F.max q5.2.2.2.2.2.2.1 q6.2.2.2.2.2.2.1) fun v29 =>
                  bnd (F.le q9.1.2.2.2.2.2.2.1 v29) fun v30 =>
                  obind (vec_Dist v4 q9.1) fun q31 =>
                  bite q2 (
                    bite v22 (
                      bite v26 (
                        bite v30 (
                          obind (vec_Right q9.1) fun q32 =>
                          bite q32 (
                            bnd (F.ge q31 (-5)) fun v33 =>
                            bite v33 (
                              bnd (F.le q31 5) fun v34 =>
                              some v34) (
                              some false)) (
                            some false)) (
                          some false)) (
                        some false)) (
                      some false)) (
                    some false)) (
                  obind (vec_Dist v4 q9.1) fun q35 =>
                  bite q2 (
                    bite v22 (
                      bite v26 (
                        some false) (
                        some false)) (
                      some false)) (
                    some false))) (
                bnd (F.min q5.2.2.2.2.2.2.1 q6.2.2.2.2.2.2.1) fun v36 =>
                bnd (F.ge q9.1.2.2.2.2.2.2.1 v36) fun v37 =>
                bite v37 (
                  bnd (F.max q5.2.2.2.2.2.2.1 q6.2.2.2.2.2.2.1) fun v38 =>
                  bnd (F.le q9.1.2.2.2.2.2.2.1 v38) fun v39 =>
                  obind (vec_Dist v4 q9.1) fun q40 =>
                  bite q2 (
                    bite v22 (
                      some false) (
                      some false)) (
                    some false)) (
                  obind (vec_Dist v4 q9.1) fun q41 =>
                  bite q2 (
                    bite v22 (
                      some false) (
                      some false)) (
                    some false)))) (
              bnd (F.min q5.2.2.2.1 q6.2.2.2.1) fun v42 =>
              bnd (F.ge q9.1.2.2.2.1 v42) fun v43 =>
              bite v43 (
                bnd (F.max q5.2.2.2.1 q6.2.2.2.1) fun v44 =>
                bnd (F.le q9.1.2.2.2.1 v44) fun v45 =>
                bnd (F.min q5.2.2.2.2.2.2.1 q6.2.2.2.2.2.2.1) fun v46 =>
                bnd (F.ge q9.1.2.2.2.2.2.2.1 v46) fun v47 =>
                bite v47 (
                  bnd (F.max q5.2.2.2.2.2.2.1 q6.2.2.2.2.2.2.1) fun v48 =>
                  bnd (F.le q9.1.2.2.2.2.2.2.1 v48) fun v49 =>
                  obind (vec_Dist v4 q9.1) fun q50 =>
                  bite q2 (
                    some false) (
                    some false)) (
                  obind (vec_Dist v4 q9.1) fun q51 =>
                  bite q2 (
                    some false) (
                    some false))) (
                bnd (F.min q5.2.2.2.2.2.2.1 q6.2.2.2.2.2.2.1) fun v52 =>
                bnd (F.ge q9.1.2.2.2.2.2.2.1 v52) fun v53 =>
                bite v53 (
                  bnd (F.max q5.2.2.2.2.2.2.1 q6.2.2.2.2.2.2.1) fun v54 =>
                  bnd (F.le q9.1.2.2.2.2.2.2.1 v54) fun v55 =>
                  obind (vec_Dist v4 q9.1) fun q56 =>
                  bite q2 (
                    some false) (
                    some false)) (
                  obind (vec_Dist v4 q9.1) fun q57 =>
                  bite q2 (
                    some false) (
                    some false))))))))) (
    bnd (F.bne q9.2 false) fun v58 =>
    bite v58 (
      some false) (
      obind (vec_Right q5) fun q59 =>
      bnd (F.not q59) fun v60 =>
      bite v60 (
        some false) (
        obind (vec_Right q6) fun q61 =>
        bnd (F.not q61) fun v62 =>
        bite v62 (
          some false) (
          bnd (F.not q9.2) fun v63 =>
          bite v63 (
            bite q2 (
              bnd (F.both (F.eq q9.1.1 0) (F.both (F.eq q9.1.2.1 0) (F.both (F.eq q9.1.2.2.1 0) (F.both (F.eq q9.1.2.2.2.1 0) (F.both (F.eq q9.1.2.2.2.2.1 0) (F.both (F.eq q9.1.2.2.2.2.2.1 0) (F.both (F.eq q9.1.2.2.2.2.2.2.1 0) (F.eq q9.1.2.2.2.2.2.2.2 0)))))))) fun v64 =>
              some v64) (
              some false)) (
            bnd (F.min q5.1 q6.1) fun v65 =>
            bnd (F.ge q9.1.1 v65) fun v66 =>
            bite v66 (
              bnd (F.max q5.1 q6.1) fun v67 =>
              bnd (F.le q9.1.1 v67) fun v68 =>
              bnd (F.min q5.2.2.2.1 q6.2.2.2.1) fun v69 =>
              bnd (F.ge q9.1.2.2.2.1 v69) fun v70 =>
              bite v70 (
                bnd (F.max q5.2.2.2.1 q6.2.2.2.1) fun v71 =>
                bnd (F.le q9.1.2.2.2.1 v71) fun v72 =>
                bnd (F.min q5.2.2.2.2.2.2.1 q6.2.2.2.2.2.2.1) fun v73 =>
                bnd (F.ge q9.1.2.2.2.2.2.2.1 v73) fun v74 =>
                bite v74 (
                  bnd (F.max q5.2.2.2.2.2.2.1 q6.2.2.2.2.2.2.1) fun v75 =>
                  bnd (F.le q9.1.2.2.2.2.2.2.1 v75) fun v76 =>
                  obind (vec_Dist v4 q9.1) fun q77 =>
                  bite q2 (
                    bite v68 (
                      bite v72 (
                        bite v76 (
                          obind (vec_Right q9.1) fun q78 =>
                          bite q78 (
                            bnd (F.ge q77 (-5)) fun v79 =>
                            bite v79 (
                              bnd (F.le q77 5) fun v80 =>
                              some v80) (
                              some false)) (
                            some false)) (
                          some false)) (
                        some false)) (
                      some false)) (
                    some false)) (
                  obind (vec_Dist v4 q9.1) fun q81 =>
                  bite q2 (
                    bite v68 (
                      bite v72 (
                        some false) (
                        some false)) (
                      some false)) (
                    some false))) (
                bnd (F.min q5.2.2.2.2.2.2.1 q6.2.2.2.2.2.2.1) fun v82 =>
                bnd (F.ge q9.1.2.2.2.2.2.2.1 v82) fun v83 =>
                bite v83 (
                  bnd (F.max q5.2.2.2.2.2.2.1 q6.2.2.2.2.2.2.1) fun v84 =>
                  bnd (F.le q9.1.2.2.2.2.2.2.1 v84) fun v85 =>
                  obind (vec_Dist v4 q9.1) fun q86 =>
                  bite q2 (
                    bite v68 (
                      some false) (
                      some false)) (
                    some false)) (
                  obind (vec_Dist v4 q9.1) fun q87 =>
                  bite q2 (
                    bite v68 (
                      some false) (
                      some false)) (
                    some false)))) (
              bnd (F.min q5.2.2.2.1 q6.2.2.2.1) fun v88 =>
              bnd (F.ge q9.1.2.2.2.1 v88) fun v89 =>
              bite v89 (
                bnd (F.max q5.2.2.2.1 q6.2.2.2.1) fun v90 =>
                bnd (F.le q9.1.2.2.2.1 v90) fun v91 =>
                bnd (F.min q5.2.2.2.2.2.2.1 q6.2.2.2.2.2.2.1) fun v92 =>
                bnd (F.ge q9.1.2.2.2.2.2.2.1 v92) fun v93 =>
                bite v93 (
                  bnd (F.max q5.2.2.2.2.2.2.1 q6.2.2.2.2.2.2.1) fun v94 =>
                  bnd (F.le q9.1.2.2.2.2.2.2.1 v94) fun v95 =>
                  obind (vec_Dist v4 q9.1) fun q96 =>
                  bite q2 (
                    some false) (
                    some false)) (
                  obind (vec_Dist v4 q9.1) fun q97 =>
                  bite q2 (
                    some false) (
                    some false))) (
                bnd (F.min q5.2.2.2.2.2.2.1 q6.2.2.2.2.2.2.1) fun v98 =>
                bnd (F.ge q9.1.2.2.2.2.2.2.1 v98) fun v99 =>
                bite v99 (
                  bnd (F.max q5.2.2.2.2.2.2.1 q6.2.2.2.2.2.2.1) fun v100 =>
                  bnd (F.le q9.1.2.2.2.2.2.2.1 v100) fun v101 =>
                  obind (vec_Dist v4 q9.1) fun q102 =>
                  bite q2 (
                    some false) (
                    some false)) (
                  obind (vec_Dist v4 q9.1) fun q103 =>
                  bite q2 (
                    some false) (
                    some false)))))))))

/-- glazier/glazierlaw04.VecNarrow -/
def glazierlaw04_VecNarrow (fl : Nat) (x0 : Int × Int × Int × Int × Int × Int × Int × Int) (x1 : Int) (x2 : Bool) : Option (Bool) :=
  obind (glazierlaw04_shown fl) fun q3 =>
  obind (glazierref04_Fit x0) fun q4 =>
  obind (vec_Right q4) fun q5 =>
  bnd (F.not q5) fun v6 =>
  bite v6 (
    some false) (
    bite x2 (
      bnd (F.rem x1 8) fun v7 =>
      bnd (F.eq v7 0) fun v8 =>
      bite v8 (
        bite q3 (
          obind (vec_Right (32769, q4.2)) fun q9 =>
          bnd (F.not q9) fun v10 =>
          some v10) (
          some false)) (
        bnd (F.eq v7 1) fun v11 =>
        bite v11 (
          bite q3 (
            obind (vec_Right (q4.1, (32769, q4.2.2))) fun q12 =>
            bnd (F.not q12) fun v13 =>
            some v13) (
            some false)) (
          bnd (F.eq v7 2) fun v14 =>
          bite v14 (
            bite q3 (
              obind (vec_Right (q4.1, (q4.2.1, (32769, q4.2.2.2)))) fun q15 =>
              bnd (F.not q15) fun v16 =>
              some v16) (
              some false)) (
            bnd (F.eq v7 3) fun v17 =>
            bite v17 (
              bite x2 (
                bite q3 (
                  obind (vec_Right (q4.1, (q4.2.1, (q4.2.2.1, (32769, q4.2.2.2.2))))) fun q18 =>
                  bnd (F.not q18) fun v19 =>
                  some v19) (
                  some false)) (
                bite q3 (
                  obind (vec_Right (q4.1, (q4.2.1, (q4.2.2.1, (0, q4.2.2.2.2))))) fun q20 =>
                  bnd (F.not q20) fun v21 =>
                  some v21) (
                  some false))) (
              bnd (F.rem x1 4) fun v22 =>
              bgd (F.within v22 4) (
                bite q3 (
                  obind (vec_Right (q4.1, (q4.2.1, (q4.2.2.1, (q4.2.2.2.1, ((F.pick v22 0 4097 q4.2.2.2.2.1), ((F.pick v22 1 4097 q4.2.2.2.2.2.1), ((F.pick v22 2 4097 q4.2.2.2.2.2.2.1), (F.pick v22 3 4097 q4.2.2.2.2.2.2.2))))))))) fun q23 =>
                  bnd (F.not q23) fun v24 =>
                  some v24) (
                  some false))))))) (
      bnd (F.rem x1 8) fun v25 =>
      bnd (F.eq v25 0) fun v26 =>
      bite v26 (
        bite q3 (
          obind (vec_Right ((-32769), q4.2)) fun q27 =>
          bnd (F.not q27) fun v28 =>
          some v28) (
          some false)) (
        bnd (F.eq v25 1) fun v29 =>
        bite v29 (
          bite q3 (
            obind (vec_Right (q4.1, ((-32769), q4.2.2))) fun q30 =>
            bnd (F.not q30) fun v31 =>
            some v31) (
            some false)) (
          bnd (F.eq v25 2) fun v32 =>
          bite v32 (
            bite q3 (
              obind (vec_Right (q4.1, (q4.2.1, ((-32769), q4.2.2.2)))) fun q33 =>
              bnd (F.not q33) fun v34 =>
              some v34) (
              some false)) (
            bnd (F.eq v25 3) fun v35 =>
            bite v35 (
              bite x2 (
                bite q3 (
                  obind (vec_Right (q4.1, (q4.2.1, (q4.2.2.1, (32769, q4.2.2.2.2))))) fun q36 =>
                  bnd (F.not q36) fun v37 =>
                  some v37) (
                  some false)) (
                bite q3 (
                  obind (vec_Right (q4.1, (q4.2.1, (q4.2.2.1, (0, q4.2.2.2.2))))) fun q38 =>
                  bnd (F.not q38) fun v39 =>
                  some v39) (
                  some false))) (
              bnd (F.rem x1 4) fun v40 =>
              bgd (F.within v40 4) (
                bite q3 (
                  obind (vec_Right (q4.1, (q4.2.1, (q4.2.2.1, (q4.2.2.2.1, ((F.pick v40 0 (-4097) q4.2.2.2.2.1), ((F.pick v40 1 (-4097) q4.2.2.2.2.2.1), ((F.pick v40 2 (-4097) q4.2.2.2.2.2.2.1), (F.pick v40 3 (-4097) q4.2.2.2.2.2.2.2))))))))) fun q41 =>
                  bnd (F.not q41) fun v42 =>
                  some v42) (
                  some false))))))))


end Go.Proofs.Ytmiffokcdmehhaa.G
