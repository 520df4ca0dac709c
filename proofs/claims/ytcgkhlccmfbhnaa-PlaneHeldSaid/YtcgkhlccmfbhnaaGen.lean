/- Plain functions, printed by program out of the given ones: what each Go function comes to. -/
import Derived.Test.YtcgkhlccmfbhnaaMchA
set_option linter.unusedVariables false
namespace Go.Proofs.Ytcgkhlccmfbhnaa.G
open Go Go.Proofs.Ytcgkhlccmfbhnaa.M

/-- glazier/edge.Cross -/
def edge_Cross (x0 : Int × Int × Int × Int × Int × Int × Int) (x1 : Int × Int × Int × Int × Int × Int × Int) (x2 : Int) (x3 : Int) : Option (Int) :=
  bnd (F.sub .i64 x1.1 x0.1) fun v4 =>
  bnd (F.sub .i64 x3 x0.2.1) fun v5 =>
  bnd (F.mul .i64 v4 v5) fun v6 =>
  bnd (F.sub .i64 x1.2.1 x0.2.1) fun v7 =>
  bnd (F.sub .i64 x2 x0.1) fun v8 =>
  bnd (F.mul .i64 v7 v8) fun v9 =>
  bnd (F.sub .i64 v6 v9) fun v10 =>
  some v10

/-- glazier/edge.Area -/
def edge_Area (x0 : (Int × Int × Int × Int × Int × Int × Int) × (Int × Int × Int × Int × Int × Int × Int) × Int × Int × Int × Int × Int × Int × Int) : Option (Int) :=
  obind (edge_Cross x0.1 x0.2.1 x0.2.2.1 x0.2.2.2.1) fun q1 =>
  some q1

/-- glazier/fixed.size -/
def fixed_size (x0 : Int) : Option (Int) :=
  bnd (F.neg .i64 x0) fun v1 =>
  bnd (F.max x0 v1) fun v2 =>
  bnd (F.conv .u64 v2) fun v3 =>
  some v3

/-- math/bits.Mul64 -/
def bits_Mul64 (x0 : Int) (x1 : Int) : Option (Int × Int) :=
  bnd (F.and .u64 x0 4294967295) fun v2 =>
  bnd (F.shr .u64 x0 32) fun v3 =>
  bnd (F.and .u64 x1 4294967295) fun v4 =>
  bnd (F.shr .u64 x1 32) fun v5 =>
  bnd (F.mul .u64 v2 v4) fun v6 =>
  bnd (F.mul .u64 v3 v4) fun v7 =>
  bnd (F.shr .u64 v6 32) fun v8 =>
  bnd (F.add .u64 v7 v8) fun v9 =>
  bnd (F.and .u64 v9 4294967295) fun v10 =>
  bnd (F.shr .u64 v9 32) fun v11 =>
  bnd (F.mul .u64 v2 v5) fun v12 =>
  bnd (F.add .u64 v10 v12) fun v13 =>
  bnd (F.mul .u64 v3 v5) fun v14 =>
  bnd (F.add .u64 v14 v11) fun v15 =>
  bnd (F.shr .u64 v13 32) fun v16 =>
  bnd (F.add .u64 v15 v16) fun v17 =>
  bnd (F.mul .u64 x0 x1) fun v18 =>
  some (v17, v18)

/-- math/bits.LeadingZeros64 -/
def bits_LeadingZeros64 (x0 : Int) : Option (Int) :=
  none

def bits_Div64_l1 (fl : Nat) : Nat → Int → Int → Int → Int → Int → Int → Int → Int → Int → Option (Int × Int × Int × Int × Int × Int × Int × Int × Int × Unit)
  | 0, _, _, _, _, _, _, _, _, _ => none
  | n + 1, x0, x1, x2, x3, x4, x5, x6, x7, x8 =>
    bnd (F.ge x7 4294967296) fun v9 =>
    bite v9 (
      bnd (F.sub .u64 x7 1) fun v10 =>
      bnd (F.add .u64 x8 x2) fun v11 =>
      bnd (F.ge v11 4294967296) fun v12 =>
      bite v12 (
        some (x0, (x1, (x2, (x3, (x4, (x5, (x6, (v10, (v11, ())))))))))) (
        bits_Div64_l1 fl n x0 x1 x2 x3 x4 x5 x6 v10 v11)) (
      bnd (F.mul .u64 x7 x3) fun v13 =>
      bnd (F.mul .u64 4294967296 x8) fun v14 =>
      bnd (F.add .u64 v14 x5) fun v15 =>
      bnd (F.gt v13 v15) fun v16 =>
      bite v16 (
        bnd (F.sub .u64 x7 1) fun v17 =>
        bnd (F.add .u64 x8 x2) fun v18 =>
        bnd (F.ge v18 4294967296) fun v19 =>
        bite v19 (
          some (x0, (x1, (x2, (x3, (x4, (x5, (x6, (v17, (v18, ())))))))))) (
          bits_Div64_l1 fl n x0 x1 x2 x3 x4 x5 x6 v17 v18)) (
        some (x0, (x1, (x2, (x3, (x4, (x5, (x6, (x7, (x8, ())))))))))))

def bits_Div64_l2 (fl : Nat) : Nat → Int → Int → Int → Int → Int → Int → Int → Int → Int → Option (Int × Int × Int × Int × Int × Int × Unit)
  | 0, _, _, _, _, _, _, _, _, _ => none
  | n + 1, x0, x1, x2, x3, x4, x5, x6, x7, x8 =>
    bnd (F.ge x8 4294967296) fun v9 =>
    bite v9 (
      bnd (F.sub .u64 x8 1) fun v10 =>
      bnd (F.add .u64 x6 x2) fun v11 =>
      bnd (F.ge v11 4294967296) fun v12 =>
      bite v12 (
        some (x0, (x1, (x4, (x5, (x7, (v10, ()))))))) (
        bits_Div64_l2 fl n x0 x1 x2 x3 x4 x5 v11 x7 v10)) (
      bnd (F.mul .u64 x8 x3) fun v13 =>
      bnd (F.mul .u64 4294967296 x6) fun v14 =>
      bnd (F.add .u64 v14 x4) fun v15 =>
      bnd (F.gt v13 v15) fun v16 =>
      bite v16 (
        bnd (F.sub .u64 x8 1) fun v17 =>
        bnd (F.add .u64 x6 x2) fun v18 =>
        bnd (F.ge v18 4294967296) fun v19 =>
        bite v19 (
          some (x0, (x1, (x4, (x5, (x7, (v17, ()))))))) (
          bits_Div64_l2 fl n x0 x1 x2 x3 x4 x5 v18 x7 v17)) (
        some (x0, (x1, (x4, (x5, (x7, (x8, ()))))))))

/-- math/bits.Div64 -/
def bits_Div64 (fl : Nat) (x0 : Int) (x1 : Int) (x2 : Int) : Option (Int × Int) :=
  bnd (F.eq x2 0) fun v80 =>
  bite v80 (
    none) (
    bnd (F.le x2 x0) fun v81 =>
    bite v81 (
      none) (
      bnd (F.eq x0 0) fun v82 =>
      bite v82 (
        bgd (F.nonzero x2) (
          bnd (F.quo .u64 x1 x2) fun v83 =>
          bgd (F.nonzero x2) (
            bnd (F.rem x1 x2) fun v84 =>
            some (v83, v84)))) (
        obind (bits_LeadingZeros64 x2) fun q85 =>
        bnd (F.conv .u64 q85) fun v86 =>
        bgd (F.nonneg v86) (
          bnd (F.shl .u64 x2 v86) fun v87 =>
          bnd (F.shr .u64 v87 32) fun v88 =>
          bnd (F.and .u64 v87 4294967295) fun v89 =>
          bgd (F.nonneg v86) (
            bnd (F.shl .u64 x0 v86) fun v90 =>
            bnd (F.sub .u64 64 v86) fun v91 =>
            bgd (F.nonneg v91) (
              bnd (F.shr .u64 x1 v91) fun v92 =>
              bnd (F.or .u64 v90 v92) fun v93 =>
              bgd (F.nonneg v86) (
                bnd (F.shl .u64 x1 v86) fun v94 =>
                bnd (F.shr .u64 v94 32) fun v95 =>
                bnd (F.and .u64 v94 4294967295) fun v96 =>
                bgd (F.nonzero v88) (
                  bnd (F.quo .u64 v93 v88) fun v97 =>
                  bnd (F.mul .u64 v97 v88) fun v98 =>
                  bnd (F.sub .u64 v93 v98) fun v99 =>
                  obind (bits_Div64_l1 fl fl v87 v86 v88 v89 v93 v95 v96 v97 v99) fun q100 =>
                  bnd (F.mul .u64 q100.2.2.2.2.1 4294967296) fun v101 =>
                  bnd (F.add .u64 v101 q100.2.2.2.2.2.1) fun v102 =>
                  bnd (F.mul .u64 q100.2.2.2.2.2.2.2.1 q100.1) fun v103 =>
                  bnd (F.sub .u64 v102 v103) fun v104 =>
                  bgd (F.nonzero q100.2.2.1) (
                    bnd (F.quo .u64 v104 q100.2.2.1) fun v105 =>
                    bnd (F.mul .u64 v105 q100.2.2.1) fun v106 =>
                    bnd (F.sub .u64 v104 v106) fun v107 =>
                    obind (bits_Div64_l2 fl fl q100.1 q100.2.1 q100.2.2.1 q100.2.2.2.1 q100.2.2.2.2.2.2.1 q100.2.2.2.2.2.2.2.1 v107 v104 v105) fun q108 =>
                    bnd (F.mul .u64 q108.2.2.2.1 4294967296) fun v109 =>
                    bnd (F.add .u64 v109 q108.2.2.2.2.2.1) fun v110 =>
                    bnd (F.mul .u64 q108.2.2.2.2.1 4294967296) fun v111 =>
                    bnd (F.add .u64 v111 q108.2.2.1) fun v112 =>
                    bnd (F.mul .u64 q108.2.2.2.2.2.1 q108.1) fun v113 =>
                    bnd (F.sub .u64 v112 v113) fun v114 =>
                    bgd (F.nonneg q108.2.1) (
                      bnd (F.shr .u64 v114 q108.2.1) fun v115 =>
                      some (v110, v115)))))))))))

/-- glazier/fixed.checked -/
def fixed_checked (x0 : Int) (x1 : Bool) : Option (Int × Int) :=
  bnd (F.not x1) fun v2 =>
  bite v2 (
    some (0, 2)) (
    some (x0, 0))

/-- glazier/fixed.signed -/
def fixed_signed (x0 : Int) (x1 : Bool) : Option (Int × Int) :=
  bite x1 (
    bnd (F.neg .u64 x0) fun v5 =>
    bnd (F.conv .i64 v5) fun v6 =>
    bnd (F.le x0 9223372036854775808) fun v7 =>
    obind (fixed_checked v6 v7) fun q8 =>
    some q8) (
    bnd (F.conv .i64 x0) fun v9 =>
    bnd (F.le x0 9223372036854775807) fun v10 =>
    obind (fixed_checked v9 v10) fun q11 =>
    some q11)

/-- glazier/fixed.MulDiv -/
def fixed_MulDiv (fl : Nat) (x0 : Int) (x1 : Int) (x2 : Int) : Option (Int × Int) :=
  bnd (F.eq x2 0) fun v28 =>
  bite v28 (
    some (0, 3)) (
    obind (fixed_size x0) fun q29 =>
    obind (fixed_size x1) fun q30 =>
    obind (bits_Mul64 q29 q30) fun q31 =>
    obind (fixed_size x2) fun q32 =>
    bnd (F.ge q31.1 q32) fun v33 =>
    bite v33 (
      some (0, 2)) (
      obind (bits_Div64 fl q31.1 q31.2 q32) fun q34 =>
      bnd (F.lt x0 0) fun v35 =>
      bnd (F.lt x1 0) fun v36 =>
      bnd (F.bne v35 v36) fun v37 =>
      bnd (F.lt x2 0) fun v38 =>
      bnd (F.bne v37 v38) fun v39 =>
      bite v39 (
        bnd (F.gt q34.2 0) fun v40 =>
        bite v40 (
          bnd (F.add .u64 q34.1 1) fun v41 =>
          bnd (F.eq v41 0) fun v42 =>
          bite v42 (
            some (0, 2)) (
            obind (fixed_signed v41 v39) fun q43 =>
            some q43)) (
          obind (fixed_signed q34.1 v39) fun q44 =>
          some q44)) (
        obind (fixed_signed q34.1 v39) fun q45 =>
        some q45)))

/-- glazier/plane.At -/
def plane_At (fl : Nat) (x0 : (Int × Int × Int × Int × Int × Int × Int) × (Int × Int × Int × Int × Int × Int × Int) × Int × Int × Int × Int × Int × Int × Int) (x1 : Int × Int × Int) (x2 : Int) (x3 : Int) : Option (Int) :=
  obind (edge_Area x0) fun q28 =>
  bnd (F.le q28 0) fun v29 =>
  bite v29 (
    some 0) (
    obind (edge_Cross x0.2.1 x0.2.2 x2 x3) fun q30 =>
    obind (fixed_MulDiv fl x1.1 q30 q28) fun q31 =>
    bnd (F.add .i64 0 q31.1) fun v32 =>
    bnd (F.mul .i64 x1.1 q30) fun v33 =>
    bnd (F.mul .i64 q31.1 q28) fun v34 =>
    bnd (F.sub .i64 v33 v34) fun v35 =>
    bnd (F.add .i64 0 v35) fun v36 =>
    obind (edge_Cross x0.2.2 x0.1 x2 x3) fun q37 =>
    obind (fixed_MulDiv fl x1.2.1 q37 q28) fun q38 =>
    bnd (F.add .i64 v32 q38.1) fun v39 =>
    bnd (F.mul .i64 x1.2.1 q37) fun v40 =>
    bnd (F.mul .i64 q38.1 q28) fun v41 =>
    bnd (F.sub .i64 v40 v41) fun v42 =>
    bnd (F.add .i64 v36 v42) fun v43 =>
    obind (edge_Cross x0.1 x0.2.1 x2 x3) fun q44 =>
    obind (fixed_MulDiv fl x1.2.2 q44 q28) fun q45 =>
    bnd (F.add .i64 v39 q45.1) fun v46 =>
    bnd (F.mul .i64 x1.2.2 q44) fun v47 =>
    bnd (F.mul .i64 q45.1 q28) fun v48 =>
    bnd (F.sub .i64 v47 v48) fun v49 =>
    bnd (F.add .i64 v43 v49) fun v50 =>
    bgd (F.nonzero q28) (
      bnd (F.quo .i64 v50 q28) fun v51 =>
      bnd (F.add .i64 v46 v51) fun v52 =>
      some v52))

/-- glazier/glazierlaw09.shown -/
def glazierlaw09_shown (fl : Nat)  : Option (Bool) :=
  obind (plane_At fl ((0, (0, (0, (0, (0, (0, 0)))))), ((16, (0, (0, (0, (0, (0, 0)))))), (0, (16, (0, (0, (0, (0, 0)))))))) (0, (16, 32)) 8 4) fun q0 =>
  bnd (F.eq q0 16) fun v1 =>
  some v1

/-- glazier/glazierref07.Small -/
def glazierref07_Small (x0 : Int × Int × Int × Int × Int × Int × Int) : Option (Int × Int × Int × Int × Int × Int × Int) :=
  bnd (F.rem x0.1 16385) fun v8 =>
  bnd (F.rem x0.2.1 16385) fun v9 =>
  bnd (F.rem x0.2.2.1 1073741825) fun v10 =>
  bnd (F.rem x0.2.2.2.1 4097) fun v11 =>
  bnd (F.rem x0.2.2.2.2.1 4097) fun v12 =>
  bnd (F.rem x0.2.2.2.2.2.1 4097) fun v13 =>
  bnd (F.rem x0.2.2.2.2.2.2 4097) fun v14 =>
  some (v8, (v9, (v10, (v11, (v12, (v13, v14))))))

/-- glazier/glazierref07.Three -/
def glazierref07_Three (x0 : (Int × Int × Int × Int × Int × Int × Int) × (Int × Int × Int × Int × Int × Int × Int) × Int × Int × Int × Int × Int × Int × Int) : Option ((Int × Int × Int × Int × Int × Int × Int) × (Int × Int × Int × Int × Int × Int × Int) × Int × Int × Int × Int × Int × Int × Int) :=
  obind (glazierref07_Small x0.1) fun q1 =>
  obind (glazierref07_Small x0.2.1) fun q2 =>
  obind (glazierref07_Small x0.2.2) fun q3 =>
  some (q1, (q2, q3))

/-- glazier/glazierref07.Cross -/
def glazierref07_Cross (x0 : Int × Int × Int × Int × Int × Int × Int) (x1 : Int × Int × Int × Int × Int × Int × Int) (x2 : Int) (x3 : Int) : Option (Int) :=
  bnd (F.sub .i64 x1.1 x0.1) fun v4 =>
  bnd (F.sub .i64 x3 x0.2.1) fun v5 =>
  bnd (F.mul .i64 v4 v5) fun v6 =>
  bnd (F.sub .i64 x1.2.1 x0.2.1) fun v7 =>
  bnd (F.sub .i64 x2 x0.1) fun v8 =>
  bnd (F.mul .i64 v7 v8) fun v9 =>
  bnd (F.sub .i64 v6 v9) fun v10 =>
  some v10

/-- glazier/glazierref07.Area -/
def glazierref07_Area (x0 : (Int × Int × Int × Int × Int × Int × Int) × (Int × Int × Int × Int × Int × Int × Int) × Int × Int × Int × Int × Int × Int × Int) : Option (Int) :=
  obind (glazierref07_Cross x0.1 x0.2.1 x0.2.2.1 x0.2.2.2.1) fun q1 =>
  some q1

/-- glazier/glazierref07.Turned -/
def glazierref07_Turned (x0 : (Int × Int × Int × Int × Int × Int × Int) × (Int × Int × Int × Int × Int × Int × Int) × Int × Int × Int × Int × Int × Int × Int) : Option (((Int × Int × Int × Int × Int × Int × Int) × (Int × Int × Int × Int × Int × Int × Int) × Int × Int × Int × Int × Int × Int × Int) × Bool) :=
  obind (glazierref07_Area x0) fun q1 =>
  bnd (F.eq q1 0) fun v2 =>
  bite v2 (
    some (((0, (0, (0, (0, (0, (0, 0)))))), ((0, (0, (0, (0, (0, (0, 0)))))), (0, (0, (0, (0, (0, (0, 0)))))))), false)) (
    bnd (F.lt q1 0) fun v3 =>
    bite v3 (
      some ((x0.1, (x0.2.2, x0.2.1)), true)) (
      some (x0, true)))

/-- glazier/glazierlaw09.small -/
def glazierlaw09_small (x0 : Int × Int × Int) : Option (Int × Int × Int) :=
  bnd (F.rem x0.1 1073741825) fun v4 =>
  bnd (F.rem x0.2.1 1073741825) fun v5 =>
  bnd (F.rem x0.2.2 1073741825) fun v6 =>
  some (v4, (v5, v6))

/-- glazier/glazierref07.First -/
def glazierref07_First (x0 : Int × Int × Int × Int × Int × Int × Int) (x1 : Int × Int × Int × Int × Int × Int × Int) : Option (Bool) :=
  bnd (F.lt x1.2.1 x0.2.1) fun v2 =>
  bite v2 (
    some true) (
    bnd (F.eq x1.2.1 x0.2.1) fun v3 =>
    bite v3 (
      bnd (F.gt x1.1 x0.1) fun v4 =>
      some v4) (
      some false))

/-- glazier/glazierref07.In -/
def glazierref07_In (x0 : (Int × Int × Int × Int × Int × Int × Int) × (Int × Int × Int × Int × Int × Int × Int) × Int × Int × Int × Int × Int × Int × Int) (x1 : Int) (x2 : Int) : Option (Bool) :=
  obind (glazierref07_Area x0) fun q41 =>
  bnd (F.le q41 0) fun v42 =>
  bite v42 (
    some false) (
    obind (glazierref07_Cross x0.1 x0.2.1 x1 x2) fun q43 =>
    obind (glazierref07_First x0.1 x0.2.1) fun q44 =>
    bnd (F.lt q43 0) fun v45 =>
    bite v45 (
      some false) (
      bnd (F.eq q43 0) fun v46 =>
      bite v46 (
        bnd (F.not q44) fun v47 =>
        bite v47 (
          some false) (
          obind (glazierref07_Cross x0.2.1 x0.2.2 x1 x2) fun q48 =>
          obind (glazierref07_First x0.2.1 x0.2.2) fun q49 =>
          bnd (F.lt q48 0) fun v50 =>
          bite v50 (
            some false) (
            bnd (F.eq q48 0) fun v51 =>
            bite v51 (
              bnd (F.not q49) fun v52 =>
              bite v52 (
                some false) (
                obind (glazierref07_Cross x0.2.2 x0.1 x1 x2) fun q53 =>
                obind (glazierref07_First x0.2.2 x0.1) fun q54 =>
                bnd (F.lt q53 0) fun v55 =>
                bite v55 (
                  some false) (
                  bnd (F.eq q53 0) fun v56 =>
                  bite v56 (
                    bnd (F.not q54) fun v57 =>
                    bite v57 (
                      some false) (
                      some true)) (
                    some true)))) (
              obind (glazierref07_Cross x0.2.2 x0.1 x1 x2) fun q58 =>
              obind (glazierref07_First x0.2.2 x0.1) fun q59 =>
              bnd (F.lt q58 0) fun v60 =>
              bite v60 (
                some false) (
                bnd (F.eq q58 0) fun v61 =>
                bite v61 (
                  bnd (F.not q59) fun v62 =>
                  bite v62 (
                    some false) (
                    some true)) (
                  some true)))))) (
        obind (glazierref07_Cross x0.2.1 x0.2.2 x1 x2) fun q63 =>
        obind (glazierref07_First x0.2.1 x0.2.2) fun q64 =>
        bnd (F.lt q63 0) fun v65 =>
        bite v65 (
          some false) (
          bnd (F.eq q63 0) fun v66 =>
          bite v66 (
            bnd (F.not q64) fun v67 =>
            bite v67 (
              some false) (
              obind (glazierref07_Cross x0.2.2 x0.1 x1 x2) fun q68 =>
              obind (glazierref07_First x0.2.2 x0.1) fun q69 =>
              bnd (F.lt q68 0) fun v70 =>
              bite v70 (
                some false) (
                bnd (F.eq q68 0) fun v71 =>
                bite v71 (
                  bnd (F.not q69) fun v72 =>
                  bite v72 (
                    some false) (
                    some true)) (
                  some true)))) (
            obind (glazierref07_Cross x0.2.2 x0.1 x1 x2) fun q73 =>
            obind (glazierref07_First x0.2.2 x0.1) fun q74 =>
            bnd (F.lt q73 0) fun v75 =>
            bite v75 (
              some false) (
              bnd (F.eq q73 0) fun v76 =>
              bite v76 (
                bnd (F.not q74) fun v77 =>
                bite v77 (
                  some false) (
                  some true)) (
                some true)))))))

/-- glazier/glazierlaw09.PlaneWithin -/
def glazierlaw09_PlaneWithin (fl : Nat) (x0 : (Int × Int × Int × Int × Int × Int × Int) × (Int × Int × Int × Int × Int × Int × Int) × Int × Int × Int × Int × Int × Int × Int) (x1 : Int × Int × Int) (x2 : Int × Int) : Option (Bool) :=
  obind (glazierlaw09_shown fl) fun q21 =>
  obind (glazierref07_Three x0) fun q22 =>
  obind (glazierref07_Turned q22) fun q23 =>
  obind (glazierlaw09_small x1) fun q24 =>
  bnd (F.rem x2.1 16385) fun v25 =>
  bnd (F.rem x2.2 16385) fun v26 =>
  bnd (F.not q23.2) fun v27 =>
  bite v27 (
    some q21) (
    obind (plane_At fl q23.1 q24 v25 v26) fun q28 =>
    bnd (F.add .i64 q24.1 1) fun v29 =>
    bnd (F.add .i64 q24.2.1 1) fun v30 =>
    bnd (F.add .i64 q24.2.2 1) fun v31 =>
    obind (plane_At fl q23.1 (v29, (v30, v31)) v25 v26) fun q32 =>
    obind (glazierref07_In q23.1 v25 v26) fun q33 =>
    bite q21 (
      bnd (F.add .i64 q28 1) fun v34 =>
      bnd (F.eq q32 v34) fun v35 =>
      bite v35 (
        bnd (F.not q33) fun v36 =>
        bite v36 (
          some true) (
          bnd (F.min (F.min q24.1 q24.2.1) q24.2.2) fun v37 =>
          bnd (F.ge q28 v37) fun v38 =>
          bite v38 (
            bnd (F.max (F.max q24.1 q24.2.1) q24.2.2) fun v39 =>
            bnd (F.le q28 v39) fun v40 =>
            some v40) (
            some false))) (
        some false)) (
      some false))

/-- glazier/glazierlaw09.PlaneSums -/
def glazierlaw09_PlaneSums (fl : Nat) (x0 : (Int × Int × Int × Int × Int × Int × Int) × (Int × Int × Int × Int × Int × Int × Int) × Int × Int × Int × Int × Int × Int × Int) (x1 : (Int × Int × Int) × Int × Int × Int) (x2 : Int × Int) : Option (Bool) :=
  obind (glazierlaw09_shown fl) fun q18 =>
  obind (glazierref07_Three x0) fun q19 =>
  obind (glazierref07_Turned q19) fun q20 =>
  bnd (F.rem x2.1 16385) fun v21 =>
  bnd (F.rem x2.2 16385) fun v22 =>
  bnd (F.not q20.2) fun v23 =>
  bite v23 (
    some q18) (
    bnd (F.rem x1.1.1 536870912) fun v24 =>
    bnd (F.rem x1.2.1 536870912) fun v25 =>
    bnd (F.add .i64 v24 v25) fun v26 =>
    bnd (F.rem x1.1.2.1 536870912) fun v27 =>
    bnd (F.rem x1.2.2.1 536870912) fun v28 =>
    bnd (F.add .i64 v27 v28) fun v29 =>
    bnd (F.rem x1.1.2.2 536870912) fun v30 =>
    bnd (F.rem x1.2.2.2 536870912) fun v31 =>
    bnd (F.add .i64 v30 v31) fun v32 =>
    obind (plane_At fl q20.1 (v26, (v29, v32)) v21 v22) fun q33 =>
    obind (plane_At fl q20.1 (v24, (v27, v30)) v21 v22) fun q34 =>
    bnd (F.sub .i64 q33 q34) fun v35 =>
    obind (plane_At fl q20.1 (v25, (v28, v31)) v21 v22) fun q36 =>
    bnd (F.sub .i64 v35 q36) fun v37 =>
    obind (glazierref07_Area q20.1) fun q38 =>
    bnd (F.ge q38 1073741824) fun v39 =>
    bite v39 (
      bite q18 (
        bnd (F.eq v37 0) fun v40 =>
        bite v40 (
          some true) (
          bnd (F.eq v37 1) fun v41 =>
          some v41)) (
        some false)) (
      bite q18 (
        bnd (F.eq v37 0) fun v42 =>
        bite v42 (
          obind (plane_At fl q20.1 (0, (0, q38)) v21 v22) fun q43 =>
          obind (glazierref07_Cross q20.1.1 q20.1.2.1 v21 v22) fun q44 =>
          bnd (F.eq q43 q44) fun v45 =>
          some v45) (
          bnd (F.eq v37 1) fun v46 =>
          bite v46 (
            obind (plane_At fl q20.1 (0, (0, q38)) v21 v22) fun q47 =>
            obind (glazierref07_Cross q20.1.1 q20.1.2.1 v21 v22) fun q48 =>
            bnd (F.eq q47 q48) fun v49 =>
            some v49) (
            some false))) (
        some false)))

/-- glazier/plane.Depth$1 -/
def plane_Depth_1 (x0 : Int × Int × Int × Int × Int × Int × Int) : Option (Int) :=
  some x0.2.2.1

/-- glazier/view.Centre -/
def view_Centre (x0 : Int) : Option (Int) :=
  bnd (F.mul .i64 16 x0) fun v1 =>
  bnd (F.add .i64 v1 8) fun v2 =>
  some v2

/-- glazier/plane.each -/
def plane_each (fl : Nat) (x0 : (Int × Int × Int × Int × Int × Int × Int) × (Int × Int × Int × Int × Int × Int × Int) × Int × Int × Int × Int × Int × Int × Int) (x1 : Int) (x2 : Int) (x3 : Unit) : Option (Int) :=
  obind (plane_Depth_1 x0.1) fun q7 =>
  obind (plane_Depth_1 x0.2.1) fun q8 =>
  obind (plane_Depth_1 x0.2.2) fun q9 =>
  obind (view_Centre x1) fun q10 =>
  obind (view_Centre x2) fun q11 =>
  obind (plane_At fl x0 (q7, (q8, q9)) q10 q11) fun q12 =>
  some q12

/-- glazier/plane.Depth -/
def plane_Depth (fl : Nat) (x0 : (Int × Int × Int × Int × Int × Int × Int) × (Int × Int × Int × Int × Int × Int × Int) × Int × Int × Int × Int × Int × Int × Int) (x1 : Int) (x2 : Int) : Option (Int) :=
  obind (edge_Area x0) fun q5 =>
  bnd (F.le q5 0) fun v6 =>
  bite v6 (
    some 0) (
    obind (plane_each fl x0 x1 x2 ()) fun q7 =>
    bnd (F.min (F.min x0.1.2.2.1 x0.2.1.2.2.1) x0.2.2.2.2.1) fun v8 =>
    bnd (F.max q7 v8) fun v9 =>
    bnd (F.max (F.max x0.1.2.2.1 x0.2.1.2.2.1) x0.2.2.2.2.1) fun v10 =>
    bnd (F.min v9 v10) fun v11 =>
    some v11)

/-- glazier/glazierlaw09.PlanePoints -/
def glazierlaw09_PlanePoints (fl : Nat) (x0 : (Int × Int × Int × Int × Int × Int × Int) × (Int × Int × Int × Int × Int × Int × Int) × Int × Int × Int × Int × Int × Int × Int) (x1 : Int × Int × Int) (x2 : Int × Int) : Option (Bool) :=
  obind (glazierlaw09_shown fl) fun q29 =>
  obind (glazierref07_Three x0) fun q30 =>
  obind (glazierlaw09_small x1) fun q31 =>
  bnd (F.rem x2.1 16385) fun v32 =>
  bnd (F.rem x2.2 16385) fun v33 =>
  obind (glazierref07_Area q30) fun q34 =>
  bnd (F.le q34 0) fun v35 =>
  bite v35 (
    bite q29 (
      obind (plane_At fl q30 q31 v32 v33) fun q36 =>
      bnd (F.eq q36 0) fun v37 =>
      bite v37 (
        obind (plane_Depth fl q30 3 4) fun q38 =>
        bnd (F.eq q38 0) fun v39 =>
        some v39) (
        some false)) (
      some false)) (
    obind (plane_At fl q30 q31 q30.1.1 q30.1.2.1) fun q40 =>
    bnd (F.ne q40 q31.1) fun v41 =>
    bite v41 (
      some false) (
      obind (plane_At fl q30 q31 q30.2.1.1 q30.2.1.2.1) fun q42 =>
      bnd (F.ne q42 q31.2.1) fun v43 =>
      bite v43 (
        some false) (
        obind (plane_At fl q30 q31 q30.2.2.1 q30.2.2.2.1) fun q44 =>
        bnd (F.ne q44 q31.2.2) fun v45 =>
        bite v45 (
          some false) (
          bite q29 (
            obind (plane_At fl q30 (q31.1, (q31.1, q31.1)) v32 v33) fun q46 =>
            bnd (F.eq q46 q31.1) fun v47 =>
            some v47) (
            some false)))))

/-- glazier/glazierlaw09.PlaneHeld -/
def glazierlaw09_PlaneHeld (fl : Nat) (x0 : (Int × Int × Int × Int × Int × Int × Int) × (Int × Int × Int × Int × Int × Int × Int) × Int × Int × Int × Int × Int × Int × Int) (x1 : Int × Int) : Option (Bool) :=
  obind (glazierlaw09_shown fl) fun q2 =>
  obind (glazierref07_Three x0) fun q3 =>
  obind (glazierref07_Turned q3) fun q4 =>
  bnd (F.rem x1.1 513) fun v5 =>
  bnd (F.rem x1.2 513) fun v6 =>
  bnd (F.not q4.2) fun v7 =>
  bite v7 (
    some q2) (
    obind (plane_Depth fl q4.1 v5 v6) fun q8 =>
    bnd (F.mul .i64 16 v5) fun v9 =>
    bnd (F.add .i64 v9 8) fun v10 =>
    bnd (F.mul .i64 16 v6) fun v11 =>
    bnd (F.add .i64 v11 8) fun v12 =>
    obind (glazierref07_In q4.1 v10 v12) fun q13 =>
    bnd (F.mul .i64 16 v5) fun v14 =>
    bnd (F.add .i64 v14 8) fun v15 =>
    bnd (F.mul .i64 16 v6) fun v16 =>
    bnd (F.add .i64 v16 8) fun v17 =>
    obind (plane_At fl q4.1 (q4.1.1.2.2.1, (q4.1.2.1.2.2.1, q4.1.2.2.2.2.1)) v15 v17) fun q18 =>
    bite q2 (
      bnd (F.min (F.min q4.1.1.2.2.1 q4.1.2.1.2.2.1) q4.1.2.2.2.2.1) fun v19 =>
      bnd (F.ge q8 v19) fun v20 =>
      bite v20 (
        bnd (F.max (F.max q4.1.1.2.2.1 q4.1.2.1.2.2.1) q4.1.2.2.2.2.1) fun v21 =>
        bnd (F.le q8 v21) fun v22 =>
        bite v22 (
          bnd (F.not q13) fun v23 =>
          bite v23 (
            obind (plane_Depth fl (q4.1.1, ((q4.1.2.1.1, (q4.1.2.1.2.1, (q4.1.1.2.2.1, q4.1.2.1.2.2.2))), (q4.1.2.2.1, (q4.1.2.2.2.1, (q4.1.1.2.2.1, q4.1.2.2.2.2.2))))) v5 v6) fun q24 =>
            bnd (F.eq q24 q4.1.1.2.2.1) fun v25 =>
            some v25) (
            bnd (F.eq q8 q18) fun v26 =>
            bite v26 (
              obind (plane_Depth fl (q4.1.1, ((q4.1.2.1.1, (q4.1.2.1.2.1, (q4.1.1.2.2.1, q4.1.2.1.2.2.2))), (q4.1.2.2.1, (q4.1.2.2.2.1, (q4.1.1.2.2.1, q4.1.2.2.2.2.2))))) v5 v6) fun q27 =>
              bnd (F.eq q27 q4.1.1.2.2.1) fun v28 =>
              some v28) (
              some false))) (
          some false)) (
        some false)) (
      some false))

/-- glazier/plane.Attrs$1 -/
def plane_Attrs_1 (x0 : Int × Int × Int × Int × Int × Int × Int) (x1 : Int) : Option (Int) :=
  none

/-- glazier/plane.each -/
def plane_each_2 (fl : Nat) (x0 : (Int × Int × Int × Int × Int × Int × Int) × (Int × Int × Int × Int × Int × Int × Int) × Int × Int × Int × Int × Int × Int × Int) (x1 : Int) (x2 : Int) (x3 : Int) : Option (Int) :=
  obind (plane_Attrs_1 x0.1 x3) fun q4 =>
  obind (plane_Attrs_1 x0.2.1 x3) fun q5 =>
  obind (plane_Attrs_1 x0.2.2 x3) fun q6 =>
  obind (view_Centre x1) fun q7 =>
  obind (view_Centre x2) fun q8 =>
  obind (plane_At fl x0 (q4, (q5, q6)) q7 q8) fun q9 =>
  some q9

/-- glazier/plane.Attrs -/
def plane_Attrs (fl : Nat) (x0 : (Int × Int × Int × Int × Int × Int × Int) × (Int × Int × Int × Int × Int × Int × Int) × Int × Int × Int × Int × Int × Int × Int) (x1 : Int) (x2 : Int) : Option (Int × Int × Int × Int) :=
  obind (plane_each_2 fl x0 x1 x2 0) fun q7 =>
  obind (plane_each_2 fl x0 x1 x2 1) fun q8 =>
  obind (plane_each_2 fl x0 x1 x2 2) fun q9 =>
  obind (plane_each_2 fl x0 x1 x2 3) fun q10 =>
  some (q7, (q8, (q9, q10)))

/-- glazier/glazierlaw09.PlaneTurns -/
def glazierlaw09_PlaneTurns (fl : Nat) (x0 : (Int × Int × Int × Int × Int × Int × Int) × (Int × Int × Int × Int × Int × Int × Int) × Int × Int × Int × Int × Int × Int × Int) (x1 : Int × Int) : Option (Bool) :=
  obind (glazierlaw09_shown fl) fun q13 =>
  obind (glazierref07_Three x0) fun q14 =>
  bnd (F.rem x1.1 513) fun v15 =>
  bnd (F.rem x1.2 513) fun v16 =>
  bite q13 (
    obind (plane_Depth fl (q14.2.1, (q14.2.2, q14.1)) v15 v16) fun q17 =>
    obind (plane_Depth fl q14 v15 v16) fun q18 =>
    bnd (F.eq q17 q18) fun v19 =>
    bite v19 (
      obind (plane_Attrs fl (q14.2.1, (q14.2.2, q14.1)) v15 v16) fun q20 =>
      obind (plane_Attrs fl q14 v15 v16) fun q21 =>
      bnd (F.both (F.eq q20.1 q21.1) (F.both (F.eq q20.2.1 q21.2.1) (F.both (F.eq q20.2.2.1 q21.2.2.1) (F.eq q20.2.2.2 q21.2.2.2)))) fun v22 =>
      bite v22 (
        obind (plane_Depth fl ((q14.1.1, (q14.1.2.1, (q14.1.2.2.1, (0, (0, (0, 0)))))), ((q14.2.1.1, (q14.2.1.2.1, (q14.2.1.2.2.1, (0, (0, (0, 0)))))), (q14.2.2.1, (q14.2.2.2.1, (q14.2.2.2.2.1, (0, (0, (0, 0)))))))) v15 v16) fun q23 =>
        obind (plane_Depth fl q14 v15 v16) fun q24 =>
        bnd (F.eq q23 q24) fun v25 =>
        bite v25 (
          obind (plane_Attrs fl ((q14.1.1, (q14.1.2.1, (0, q14.1.2.2.2))), ((q14.2.1.1, (q14.2.1.2.1, (0, q14.2.1.2.2.2))), (q14.2.2.1, (q14.2.2.2.1, (0, q14.2.2.2.2.2))))) v15 v16) fun q26 =>
          obind (plane_Attrs fl q14 v15 v16) fun q27 =>
          bnd (F.both (F.eq q26.1 q27.1) (F.both (F.eq q26.2.1 q27.2.1) (F.both (F.eq q26.2.2.1 q27.2.2.1) (F.eq q26.2.2.2 q27.2.2.2)))) fun v28 =>
          bite v28 (
            obind (plane_Depth fl ((q14.1.1, (q14.1.2.1, (0, q14.1.2.2.2))), ((q14.2.1.1, (q14.2.1.2.1, (0, q14.2.1.2.2.2))), (q14.2.2.1, (q14.2.2.2.1, (0, q14.2.2.2.2.2))))) v15 v16) fun q29 =>
            bnd (F.eq q29 0) fun v30 =>
            bite v30 (
              obind (plane_Attrs fl ((q14.1.1, (q14.1.2.1, (q14.1.2.2.1, (0, (0, (0, 0)))))), ((q14.2.1.1, (q14.2.1.2.1, (q14.2.1.2.2.1, (0, (0, (0, 0)))))), (q14.2.2.1, (q14.2.2.2.1, (q14.2.2.2.2.1, (0, (0, (0, 0)))))))) v15 v16) fun q31 =>
              bnd (F.both (F.eq q31.1 0) (F.both (F.eq q31.2.1 0) (F.both (F.eq q31.2.2.1 0) (F.eq q31.2.2.2 0)))) fun v32 =>
              some v32) (
              some false)) (
            some false)) (
          some false)) (
        some false)) (
      some false)) (
    some false)

/-- glazier/glazierref01.size -/
def glazierref01_size (x0 : Int) : Option (Int) :=
  bnd (F.lt x0 0) fun v1 =>
  bite v1 (
    bnd (F.conv .u64 x0) fun v2 =>
    bnd (F.sub .u64 0 v2) fun v3 =>
    some v3) (
    bnd (F.conv .u64 x0) fun v4 =>
    some v4)

def glazierref01_times_l1 (fl : Nat) : Nat → Int → Int → Int → Int → Int → Int → Int → Option (Int × Int × Int × Int × Unit)
  | 0, _, _, _, _, _, _, _ => none
  | n + 1, x0, x1, x2, x3, x4, x5, x6 =>
    bnd (F.ge x6 0) fun v7 =>
    bite v7 (
      bnd (F.mul .u64 x4 2) fun v8 =>
      bnd (F.quo .u64 x5 9223372036854775808) fun v9 =>
      bnd (F.add .u64 v8 v9) fun v10 =>
      bnd (F.mul .u64 x5 2) fun v11 =>
      bgd (F.nonneg x6) (
        bnd (F.shr .u64 x2 x6) fun v12 =>
        bnd (F.rem v12 2) fun v13 =>
        bnd (F.eq v13 1) fun v14 =>
        bite v14 (
          bnd (F.add .u64 v11 x3) fun v15 =>
          bnd (F.lt v15 v11) fun v16 =>
          bite v16 (
            bnd (F.add .u64 v10 1) fun v17 =>
            bnd (F.sub .i64 x6 1) fun v18 =>
            glazierref01_times_l1 fl n x0 x1 x2 x3 v17 v15 v18) (
            bnd (F.sub .i64 x6 1) fun v19 =>
            glazierref01_times_l1 fl n x0 x1 x2 x3 v10 v15 v19)) (
          bnd (F.sub .i64 x6 1) fun v20 =>
          glazierref01_times_l1 fl n x0 x1 x2 x3 v10 v11 v20))) (
      some (x0, (x1, (x4, (x5, ())))))

/-- glazier/glazierref01.times -/
def glazierref01_times (fl : Nat) (x0 : Int) (x1 : Int) : Option (Int × Int × Bool) :=
  obind (glazierref01_size x0) fun q33 =>
  obind (glazierref01_size x1) fun q34 =>
  obind (glazierref01_times_l1 fl fl x0 x1 q33 q34 0 0 63) fun q35 =>
  bnd (F.lt q35.1 0) fun v36 =>
  bnd (F.lt q35.2.1 0) fun v37 =>
  bnd (F.bne v36 v37) fun v38 =>
  bite v38 (
    bnd (F.gt q35.2.2.1 0) fun v39 =>
    bite v39 (
      some (q35.2.2.1, (q35.2.2.2.1, true))) (
      bnd (F.gt q35.2.2.2.1 0) fun v40 =>
      some (q35.2.2.1, (q35.2.2.2.1, v40)))) (
    some (q35.2.2.1, (q35.2.2.2.1, false)))

def glazierref01_parts_l1 (fl : Nat) : Nat → Int → Int → Int → Int → Int → Int → Int → Bool → Option (Int × Int × Int × Unit)
  | 0, _, _, _, _, _, _, _, _ => none
  | n + 1, x0, x1, x2, x3, x4, x5, x6, x7 =>
    bnd (F.ge x4 0) fun v8 =>
    bite v8 (
      bnd (F.gt x4 63) fun v9 =>
      bite v9 (
        bnd (F.sub .i64 x4 64) fun v10 =>
        bgd (F.nonneg v10) (
          bnd (F.shr .u64 x5 v10) fun v11 =>
          bnd (F.rem v11 2) fun v12 =>
          bnd (F.ge x3 9223372036854775808) fun v13 =>
          bnd (F.mul .u64 x3 2) fun v14 =>
          bnd (F.add .u64 v14 v12) fun v15 =>
          bnd (F.mul .u64 x1 2) fun v16 =>
          bnd (F.quo .u64 x2 9223372036854775808) fun v17 =>
          bnd (F.add .u64 v16 v17) fun v18 =>
          bnd (F.mul .u64 x2 2) fun v19 =>
          bite v13 (
            bnd (F.sub .u64 v15 x0) fun v20 =>
            bnd (F.add .u64 v19 1) fun v21 =>
            bnd (F.sub .i64 x4 1) fun v22 =>
            glazierref01_parts_l1 fl n x0 v18 v21 v20 v22 x5 x6 x7) (
            bnd (F.ge v15 x0) fun v23 =>
            bite v23 (
              bnd (F.sub .u64 v15 x0) fun v24 =>
              bnd (F.add .u64 v19 1) fun v25 =>
              bnd (F.sub .i64 x4 1) fun v26 =>
              glazierref01_parts_l1 fl n x0 v18 v25 v24 v26 x5 x6 x7) (
              bnd (F.sub .i64 x4 1) fun v27 =>
              glazierref01_parts_l1 fl n x0 v18 v19 v15 v27 x5 x6 x7)))) (
        bgd (F.nonneg x4) (
          bnd (F.shr .u64 x6 x4) fun v28 =>
          bnd (F.rem v28 2) fun v29 =>
          bnd (F.ge x3 9223372036854775808) fun v30 =>
          bnd (F.mul .u64 x3 2) fun v31 =>
          bnd (F.add .u64 v31 v29) fun v32 =>
          bnd (F.mul .u64 x1 2) fun v33 =>
          bnd (F.quo .u64 x2 9223372036854775808) fun v34 =>
          bnd (F.add .u64 v33 v34) fun v35 =>
          bnd (F.mul .u64 x2 2) fun v36 =>
          bite v30 (
            bnd (F.sub .u64 v32 x0) fun v37 =>
            bnd (F.add .u64 v36 1) fun v38 =>
            bnd (F.sub .i64 x4 1) fun v39 =>
            glazierref01_parts_l1 fl n x0 v35 v38 v37 v39 x5 x6 x7) (
            bnd (F.ge v32 x0) fun v40 =>
            bite v40 (
              bnd (F.sub .u64 v32 x0) fun v41 =>
              bnd (F.add .u64 v36 1) fun v42 =>
              bnd (F.sub .i64 x4 1) fun v43 =>
              glazierref01_parts_l1 fl n x0 v35 v42 v41 v43 x5 x6 x7) (
              bnd (F.sub .i64 x4 1) fun v44 =>
              glazierref01_parts_l1 fl n x0 v35 v36 v32 v44 x5 x6 x7))))) (
      some (x1, (x2, (x3, ()))))

/-- glazier/glazierref01.parts -/
def glazierref01_parts (fl : Nat) (x0 : Int × Int × Bool) (x1 : Int) : Option (Int × Int × Int) :=
  obind (glazierref01_parts_l1 fl fl x1 0 0 0 127 x0.1 x0.2.1 x0.2.2) fun q48 =>
  some (q48.1, (q48.2.1, q48.2.2.1))

/-- glazier/glazierref01.told -/
def glazierref01_told (x0 : Int) (x1 : Int) (x2 : Bool) : Option (Int × Int) :=
  bite x2 (
    bnd (F.gt x0 0) fun v3 =>
    bite v3 (
      some (0, 2)) (
      bnd (F.gt x1 9223372036854775808) fun v4 =>
      bite v4 (
        some (0, 2)) (
        bite x2 (
          bnd (F.sub .u64 0 x1) fun v5 =>
          bnd (F.conv .i64 v5) fun v6 =>
          some (v6, 0)) (
          bnd (F.conv .i64 x1) fun v7 =>
          some (v7, 0))))) (
    bnd (F.gt x0 0) fun v8 =>
    bite v8 (
      some (0, 2)) (
      bnd (F.gt x1 9223372036854775807) fun v9 =>
      bite v9 (
        some (0, 2)) (
        bite x2 (
          bnd (F.sub .u64 0 x1) fun v10 =>
          bnd (F.conv .i64 v10) fun v11 =>
          some (v11, 0)) (
          bnd (F.conv .i64 x1) fun v12 =>
          some (v12, 0)))))

/-- glazier/glazierref01.MulDiv -/
def glazierref01_MulDiv (fl : Nat) (x0 : Int) (x1 : Int) (x2 : Int) : Option (Int × Int) :=
  bnd (F.eq x2 0) fun v21 =>
  bite v21 (
    some (0, 3)) (
    obind (glazierref01_times fl x0 x1) fun q22 =>
    bnd (F.lt x2 0) fun v23 =>
    bnd (F.bne q22.2.2 v23) fun v24 =>
    bite v24 (
      bnd (F.gt q22.1 0) fun v25 =>
      bite v25 (
        obind (glazierref01_size x2) fun q26 =>
        obind (glazierref01_parts fl q22 q26) fun q27 =>
        bnd (F.gt q27.2.2 0) fun v28 =>
        bite v28 (
          bnd (F.add .u64 q27.2.1 1) fun v29 =>
          bnd (F.eq v29 0) fun v30 =>
          bite v30 (
            bnd (F.add .u64 q27.1 1) fun v31 =>
            obind (glazierref01_told v31 v29 true) fun q32 =>
            some q32) (
            obind (glazierref01_told q27.1 v29 true) fun q33 =>
            some q33)) (
          obind (glazierref01_told q27.1 q27.2.1 true) fun q34 =>
          some q34)) (
        bnd (F.gt q22.2.1 0) fun v35 =>
        obind (glazierref01_size x2) fun q36 =>
        obind (glazierref01_parts fl q22 q36) fun q37 =>
        bite v35 (
          bnd (F.gt q37.2.2 0) fun v38 =>
          bite v38 (
            bnd (F.add .u64 q37.2.1 1) fun v39 =>
            bnd (F.eq v39 0) fun v40 =>
            bite v40 (
              bnd (F.add .u64 q37.1 1) fun v41 =>
              obind (glazierref01_told v41 v39 v35) fun q42 =>
              some q42) (
              obind (glazierref01_told q37.1 v39 v35) fun q43 =>
              some q43)) (
            obind (glazierref01_told q37.1 q37.2.1 v35) fun q44 =>
            some q44)) (
          obind (glazierref01_told q37.1 q37.2.1 v35) fun q45 =>
          some q45))) (
      obind (glazierref01_size x2) fun q46 =>
      obind (glazierref01_parts fl q22 q46) fun q47 =>
      obind (glazierref01_told q47.1 q47.2.1 false) fun q48 =>
      some q48))

/-- glazier/glazierref01.Floor -/
def glazierref01_Floor (fl : Nat) (x0 : Int) (x1 : Int) : Option (Int × Int) :=
  obind (glazierref01_MulDiv fl x0 1 x1) fun q2 =>
  some q2

/-- glazier/glazierref01.Down -/
def glazierref01_Down (fl : Nat) (x0 : Int) (x1 : Int) : Option (Int) :=
  obind (glazierref01_Floor fl x0 x1) fun q2 =>
  some q2.1

/-- glazier/glazierref09.At -/
def glazierref09_At (fl : Nat) (x0 : (Int × Int × Int × Int × Int × Int × Int) × (Int × Int × Int × Int × Int × Int × Int) × Int × Int × Int × Int × Int × Int × Int) (x1 : Int × Int × Int) (x2 : Int) (x3 : Int) : Option (Int) :=
  obind (glazierref07_Area x0) fun q34 =>
  bnd (F.le q34 0) fun v35 =>
  bite v35 (
    some 0) (
    obind (glazierref07_Cross x0.2.2 x0.1 x2 x3) fun q36 =>
    obind (glazierref07_Cross x0.1 x0.2.1 x2 x3) fun q37 =>
    bnd (F.sub .i64 x1.2.1 x1.1) fun v38 =>
    obind (glazierref01_Down fl q36 q34) fun q39 =>
    bnd (F.mul .i64 q39 q34) fun v40 =>
    bnd (F.sub .i64 q36 v40) fun v41 =>
    bnd (F.mul .i64 v38 q39) fun v42 =>
    bnd (F.add .i64 x1.1 v42) fun v43 =>
    obind (glazierref01_MulDiv fl v38 v41 q34) fun q44 =>
    bnd (F.add .i64 v43 q44.1) fun v45 =>
    bnd (F.mul .i64 v38 v41) fun v46 =>
    bnd (F.add .i64 0 v46) fun v47 =>
    bnd (F.mul .i64 q44.1 q34) fun v48 =>
    bnd (F.sub .i64 v47 v48) fun v49 =>
    bnd (F.sub .i64 x1.2.1 x1.1) fun v50 =>
    bnd (F.sub .i64 x1.2.2 x1.1) fun v51 =>
    obind (glazierref01_Down fl q37 q34) fun q52 =>
    bnd (F.mul .i64 q52 q34) fun v53 =>
    bnd (F.sub .i64 q37 v53) fun v54 =>
    bnd (F.mul .i64 v51 q52) fun v55 =>
    bnd (F.add .i64 v45 v55) fun v56 =>
    obind (glazierref01_MulDiv fl v51 v54 q34) fun q57 =>
    bnd (F.add .i64 v56 q57.1) fun v58 =>
    bnd (F.mul .i64 v51 v54) fun v59 =>
    bnd (F.add .i64 v49 v59) fun v60 =>
    bnd (F.mul .i64 q57.1 q34) fun v61 =>
    bnd (F.sub .i64 v60 v61) fun v62 =>
    bnd (F.ge v62 q34) fun v63 =>
    bite v63 (
      bnd (F.add .i64 v58 1) fun v64 =>
      some v64) (
      some v58))

/-- glazier/glazierref06.Centre -/
def glazierref06_Centre (x0 : Int) : Option (Int) :=
  bnd (F.mul .i64 16 x0) fun v1 =>
  bnd (F.add .i64 v1 8) fun v2 =>
  some v2

/-- glazier/glazierref09.Depth -/
def glazierref09_Depth (fl : Nat) (x0 : (Int × Int × Int × Int × Int × Int × Int) × (Int × Int × Int × Int × Int × Int × Int) × Int × Int × Int × Int × Int × Int × Int) (x1 : Int) (x2 : Int) : Option (Int) :=
  obind (glazierref07_Area x0) fun q5 =>
  bnd (F.le q5 0) fun v6 =>
  bite v6 (
    some 0) (
    obind (glazierref06_Centre x1) fun q7 =>
    obind (glazierref06_Centre x2) fun q8 =>
    obind (glazierref09_At fl x0 (x0.1.2.2.1, (x0.2.1.2.2.1, x0.2.2.2.2.1)) q7 q8) fun q9 =>
    bnd (F.min (F.min x0.1.2.2.1 x0.2.1.2.2.1) x0.2.2.2.2.1) fun v10 =>
    bnd (F.max (F.max x0.1.2.2.1 x0.2.1.2.2.1) x0.2.2.2.2.1) fun v11 =>
    bnd (F.lt q9 v10) fun v12 =>
    bite v12 (
      some v10) (
      bnd (F.gt q9 v11) fun v13 =>
      bite v13 (
        some v11) (
        some q9)))

/-- glazier/glazierref09.Attrs -/
def glazierref09_Attrs (fl : Nat) (x0 : (Int × Int × Int × Int × Int × Int × Int) × (Int × Int × Int × Int × Int × Int × Int) × Int × Int × Int × Int × Int × Int × Int) (x1 : Int) (x2 : Int) : Option (Int × Int × Int × Int) :=
  obind (glazierref06_Centre x1) fun q15 =>
  obind (glazierref06_Centre x2) fun q16 =>
  obind (glazierref09_At fl x0 (x0.1.2.2.2.1, (x0.2.1.2.2.2.1, x0.2.2.2.2.2.1)) q15 q16) fun q17 =>
  obind (glazierref06_Centre x1) fun q18 =>
  obind (glazierref06_Centre x2) fun q19 =>
  obind (glazierref09_At fl x0 (x0.1.2.2.2.2.1, (x0.2.1.2.2.2.2.1, x0.2.2.2.2.2.2.1)) q18 q19) fun q20 =>
  obind (glazierref06_Centre x1) fun q21 =>
  obind (glazierref06_Centre x2) fun q22 =>
  obind (glazierref09_At fl x0 (x0.1.2.2.2.2.2.1, (x0.2.1.2.2.2.2.2.1, x0.2.2.2.2.2.2.2.1)) q21 q22) fun q23 =>
  obind (glazierref06_Centre x1) fun q24 =>
  obind (glazierref06_Centre x2) fun q25 =>
  obind (glazierref09_At fl x0 (x0.1.2.2.2.2.2.2, (x0.2.1.2.2.2.2.2.2, x0.2.2.2.2.2.2.2.2)) q24 q25) fun q26 =>
  some (q17, (q20, (q23, q26)))

/-- glazier/glazierlaw09.PlaneAll -/
def glazierlaw09_PlaneAll (fl : Nat) (x0 : (Int × Int × Int × Int × Int × Int × Int) × (Int × Int × Int × Int × Int × Int × Int) × Int × Int × Int × Int × Int × Int × Int) (x1 : Int × Int × Int) (x2 : Int × Int) : Option (Bool) :=
  obind (glazierlaw09_shown fl) fun q36 =>
  obind (glazierref07_Three x0) fun q37 =>
  obind (glazierlaw09_small x1) fun q38 =>
  bnd (F.rem x2.1 16385) fun v39 =>
  bnd (F.rem x2.2 16385) fun v40 =>
  bnd (F.rem v39 513) fun v41 =>
  bnd (F.rem v40 513) fun v42 =>
  bite q36 (
    obind (plane_At fl q37 q38 v39 v40) fun q43 =>
    obind (glazierref09_At fl q37 q38 v39 v40) fun q44 =>
    bnd (F.eq q43 q44) fun v45 =>
    bite v45 (
      obind (plane_Depth fl q37 v41 v42) fun q46 =>
      obind (glazierref09_Depth fl q37 v41 v42) fun q47 =>
      bnd (F.eq q46 q47) fun v48 =>
      bite v48 (
        obind (plane_Attrs fl q37 v41 v42) fun q49 =>
        obind (glazierref09_Attrs fl q37 v41 v42) fun q50 =>
        bnd (F.both (F.eq q49.1 q50.1) (F.both (F.eq q49.2.1 q50.2.1) (F.both (F.eq q49.2.2.1 q50.2.2.1) (F.eq q49.2.2.2 q50.2.2.2)))) fun v51 =>
        some v51) (
        some false)) (
      some false)) (
    some false)


end Go.Proofs.Ytcgkhlccmfbhnaa.G
