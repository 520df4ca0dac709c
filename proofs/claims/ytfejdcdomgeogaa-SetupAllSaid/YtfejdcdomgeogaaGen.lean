/- Plain functions, printed by program out of the given ones: what each Go function comes to. -/
import Derived.Test.YtfejdcdomgeogaaMchA
set_option linter.unusedVariables false
namespace Go.Proofs.Ytfejdcdomgeogaa.G
open Go Go.Proofs.Ytfejdcdomgeogaa.M

/-- glazier/fixed.size -/
def fixed_size (x0 : Int) : Option (Int) :=
  bnd (F.neg .i64 x0) fun v1 =>
  bnd (F.max x0 v1) fun v2 =>
  bnd (F.conv .u64 v2) fun v3 =>
  some v3

/-- math/bits.Mul64 -/
def bits_Mul64 (x0 : Int) (x1 : Int) : Option (Int × Int) :=
  bnd (F.and .u64 x0 4294967295) fun v2 =>
  bnd (F.shr .u64 x0 32) fun v3 =>
  bnd (F.and .u64 x1 4294967295) fun v4 =>
  bnd (F.shr .u64 x1 32) fun v5 =>
  bnd (F.mul .u64 v2 v4) fun v6 =>
  bnd (F.mul .u64 v3 v4) fun v7 =>
  bnd (F.shr .u64 v6 32) fun v8 =>
  bnd (F.add .u64 v7 v8) fun v9 =>
  bnd (F.and .u64 v9 4294967295) fun v10 =>
  bnd (F.shr .u64 v9 32) fun v11 =>
  bnd (F.mul .u64 v2 v5) fun v12 =>
  bnd (F.add .u64 v10 v12) fun v13 =>
  bnd (F.mul .u64 v3 v5) fun v14 =>
  bnd (F.add .u64 v14 v11) fun v15 =>
  bnd (F.shr .u64 v13 32) fun v16 =>
  bnd (F.add .u64 v15 v16) fun v17 =>
  bnd (F.mul .u64 x0 x1) fun v18 =>
  some (v17, v18)

/-- math/bits.LeadingZeros64 -/
def bits_LeadingZeros64 (x0 : Int) : Option (Int) :=
  none

def bits_Div64_l1 (fl : Nat) : Nat → Int → Int → Int → Int → Int → Int → Int → Int → Int → Option (Int × Int × Int × Int × Int × Int × Int × Int × Unit)
  | 0, _, _, _, _, _, _, _, _, _ => none
  | n + 1, x0, x1, x2, x3, x4, x5, x6, x7, x8 =>
    bnd (F.ge x7 4294967296) fun v9 =>
    bite v9 (
      bnd (F.sub .u64 x7 1) fun v10 =>
      bnd (F.add .u64 x8 x2) fun v11 =>
      bnd (F.ge v11 4294967296) fun v12 =>
      bite v12 (
        some (x0, (x1, (x2, (x3, (x4, (x5, (x6, (v10, ()))))))))) (
        bits_Div64_l1 fl n x0 x1 x2 x3 x4 x5 x6 v10 v11)) (
      bnd (F.mul .u64 x7 x3) fun v13 =>
      bnd (F.mul .u64 4294967296 x8) fun v14 =>
      bnd (F.add .u64 v14 x5) fun v15 =>
      bnd (F.gt v13 v15) fun v16 =>
      bite v16 (
        bnd (F.sub .u64 x7 1) fun v17 =>
        bnd (F.add .u64 x8 x2) fun v18 =>
        bnd (F.ge v18 4294967296) fun v19 =>
        bite v19 (
          some (x0, (x1, (x2, (x3, (x4, (x5, (x6, (v17, ()))))))))) (
          bits_Div64_l1 fl n x0 x1 x2 x3 x4 x5 x6 v17 v18)) (
        some (x0, (x1, (x2, (x3, (x4, (x5, (x6, (x7, ()))))))))))

def bits_Div64_l2 (fl : Nat) : Nat → Int → Int → Int → Int → Int → Int → Int → Int → Int → Option (Int × Int × Int × Int × Int × Int × Unit)
  | 0, _, _, _, _, _, _, _, _, _ => none
  | n + 1, x0, x1, x2, x3, x4, x5, x6, x7, x8 =>
    bnd (F.ge x8 4294967296) fun v9 =>
    bite v9 (
      bnd (F.sub .u64 x8 1) fun v10 =>
      bnd (F.add .u64 x6 x2) fun v11 =>
      bnd (F.ge v11 4294967296) fun v12 =>
      bite v12 (
        some (x0, (x1, (x4, (x5, (x7, (v10, ()))))))) (
        bits_Div64_l2 fl n x0 x1 x2 x3 x4 x5 v11 x7 v10)) (
      bnd (F.mul .u64 x8 x3) fun v13 =>
      bnd (F.mul .u64 4294967296 x6) fun v14 =>
      bnd (F.add .u64 v14 x4) fun v15 =>
      bnd (F.gt v13 v15) fun v16 =>
      bite v16 (
        bnd (F.sub .u64 x8 1) fun v17 =>
        bnd (F.add .u64 x6 x2) fun v18 =>
        bnd (F.ge v18 4294967296) fun v19 =>
        bite v19 (
          some (x0, (x1, (x4, (x5, (x7, (v17, ()))))))) (
          bits_Div64_l2 fl n x0 x1 x2 x3 x4 x5 v18 x7 v17)) (
        some (x0, (x1, (x4, (x5, (x7, (x8, ()))))))))

/-- math/bits.Div64 -/
def bits_Div64 (fl : Nat) (x0 : Int) (x1 : Int) (x2 : Int) : Option (Int × Int) :=
  bnd (F.eq x2 0) fun v3 =>
  bite v3 (
    none) (
    bnd (F.le x2 x0) fun v4 =>
    bite v4 (
      none) (
      bnd (F.eq x0 0) fun v5 =>
      bite v5 (
        bgd (F.nonzero x2) (
          bnd (F.quo .u64 x1 x2) fun v6 =>
          bgd (F.nonzero x2) (
            bnd (F.rem x1 x2) fun v7 =>
            some (v6, v7)))) (
        obind (bits_LeadingZeros64 x2) fun q8 =>
        bnd (F.conv .u64 q8) fun v9 =>
        bgd (F.nonneg v9) (
          bnd (F.shl .u64 x2 v9) fun v10 =>
          bnd (F.shr .u64 v10 32) fun v11 =>
          bnd (F.and .u64 v10 4294967295) fun v12 =>
          bgd (F.nonneg v9) (
            bnd (F.shl .u64 x0 v9) fun v13 =>
            bnd (F.sub .u64 64 v9) fun v14 =>
            bgd (F.nonneg v14) (
              bnd (F.shr .u64 x1 v14) fun v15 =>
              bnd (F.or .u64 v13 v15) fun v16 =>
              bgd (F.nonneg v9) (
                bnd (F.shl .u64 x1 v9) fun v17 =>
                bnd (F.shr .u64 v17 32) fun v18 =>
                bnd (F.and .u64 v17 4294967295) fun v19 =>
                bgd (F.nonzero v11) (
                  bnd (F.quo .u64 v16 v11) fun v20 =>
                  bnd (F.mul .u64 v20 v11) fun v21 =>
                  bnd (F.sub .u64 v16 v21) fun v22 =>
                  obind (bits_Div64_l1 fl fl v10 v9 v11 v12 v16 v18 v19 v20 v22) fun q23 =>
                  bnd (F.mul .u64 q23.2.2.2.2.1 4294967296) fun v24 =>
                  bnd (F.add .u64 v24 q23.2.2.2.2.2.1) fun v25 =>
                  bnd (F.mul .u64 q23.2.2.2.2.2.2.2.1 q23.1) fun v26 =>
                  bnd (F.sub .u64 v25 v26) fun v27 =>
                  bgd (F.nonzero q23.2.2.1) (
                    bnd (F.quo .u64 v27 q23.2.2.1) fun v28 =>
                    bnd (F.mul .u64 v28 q23.2.2.1) fun v29 =>
                    bnd (F.sub .u64 v27 v29) fun v30 =>
                    obind (bits_Div64_l2 fl fl q23.1 q23.2.1 q23.2.2.1 q23.2.2.2.1 q23.2.2.2.2.2.2.1 q23.2.2.2.2.2.2.2.1 v30 v27 v28) fun q31 =>
                    bnd (F.mul .u64 q31.2.2.2.1 4294967296) fun v32 =>
                    bnd (F.add .u64 v32 q31.2.2.2.2.2.1) fun v33 =>
                    bnd (F.mul .u64 q31.2.2.2.2.1 4294967296) fun v34 =>
                    bnd (F.add .u64 v34 q31.2.2.1) fun v35 =>
                    bnd (F.mul .u64 q31.2.2.2.2.2.1 q31.1) fun v36 =>
                    bnd (F.sub .u64 v35 v36) fun v37 =>
                    bgd (F.nonneg q31.2.1) (
                      bnd (F.shr .u64 v37 q31.2.1) fun v38 =>
                      some (v33, v38)))))))))))

/-- glazier/fixed.checked -/
def fixed_checked (x0 : Int) (x1 : Bool) : Option (Int × Int) :=
  bnd (F.not x1) fun v2 =>
  bite v2 (
    some (0, 2)) (
    some (x0, 0))

/-- glazier/fixed.signed -/
def fixed_signed (x0 : Int) (x1 : Bool) : Option (Int × Int) :=
  bite x1 (
    bnd (F.neg .u64 x0) fun v2 =>
    bnd (F.conv .i64 v2) fun v3 =>
    bnd (F.le x0 9223372036854775808) fun v4 =>
    obind (fixed_checked v3 v4) fun q5 =>
    some q5) (
    bnd (F.conv .i64 x0) fun v6 =>
    bnd (F.le x0 9223372036854775807) fun v7 =>
    obind (fixed_checked v6 v7) fun q8 =>
    some q8)

/-- glazier/fixed.MulDiv -/
def fixed_MulDiv (fl : Nat) (x0 : Int) (x1 : Int) (x2 : Int) : Option (Int × Int) :=
  bnd (F.eq x2 0) fun v3 =>
  bite v3 (
    some (0, 3)) (
    obind (fixed_size x0) fun q4 =>
    obind (fixed_size x1) fun q5 =>
    obind (bits_Mul64 q4 q5) fun q6 =>
    obind (fixed_size x2) fun q7 =>
    bnd (F.ge q6.1 q7) fun v8 =>
    bite v8 (
      some (0, 2)) (
      obind (bits_Div64 fl q6.1 q6.2 q7) fun q9 =>
      bnd (F.lt x0 0) fun v10 =>
      bnd (F.lt x1 0) fun v11 =>
      bnd (F.bne v10 v11) fun v12 =>
      bnd (F.lt x2 0) fun v13 =>
      bnd (F.bne v12 v13) fun v14 =>
      bite v14 (
        bnd (F.gt q9.2 0) fun v15 =>
        bite v15 (
          bnd (F.add .u64 q9.1 1) fun v16 =>
          bnd (F.eq v16 0) fun v17 =>
          bite v17 (
            some (0, 2)) (
            obind (fixed_signed v16 v14) fun q18 =>
            some q18)) (
          obind (fixed_signed q9.1 v14) fun q19 =>
          some q19)) (
        obind (fixed_signed q9.1 v14) fun q20 =>
        some q20)))

/-- glazier/fixed.Floor -/
def fixed_Floor (fl : Nat) (x0 : Int) (x1 : Int) : Option (Int × Int) :=
  obind (fixed_MulDiv fl x0 1 x1) fun q2 =>
  some q2

/-- glazier/view.Pixel -/
def view_Pixel (fl : Nat) (x0 : Int) : Option (Int) :=
  obind (fixed_Floor fl x0 16) fun q1 =>
  some q1.1

/-- glazier/setup.side -/
def setup_side (fl : Nat) (x0 : Int) (x1 : Int) (x2 : Int) (x3 : Int) : Option (Int × Int) :=
  bnd (F.min (F.min x1 x2) x3) fun v4 =>
  obind (view_Pixel fl v4) fun q5 =>
  bnd (F.max q5 0) fun v6 =>
  bnd (F.max (F.max x1 x2) x3) fun v7 =>
  obind (view_Pixel fl v7) fun q8 =>
  bnd (F.add .i64 q8 1) fun v9 =>
  bnd (F.min v9 x0) fun v10 =>
  some (v6, v10)

/-- glazier/setup.Box -/
def setup_Box (fl : Nat) (x0 : Int) (x1 : Int) (x2 : (Int × Int × Int × Int × Int × Int × Int) × (Int × Int × Int × Int × Int × Int × Int) × Int × Int × Int × Int × Int × Int × Int) : Option (Int × Int × Int × Int) :=
  obind (setup_side fl x0 x2.1.1 x2.2.1.1 x2.2.2.1) fun q3 =>
  obind (setup_side fl x1 x2.1.2.1 x2.2.1.2.1 x2.2.2.2.1) fun q4 =>
  some (q3.1, (q4.1, (q3.2, q4.2)))

/-- glazier/setup.Pixels -/
def setup_Pixels (x0 : Int) (x1 : Int) (x2 : Int) (x3 : Int) : Option (Int × Int × Int × Int) :=
  some (x1, (x3, (x0, x2)))

/-- glazier/glazierlaw10.shown -/
def glazierlaw10_shown (fl : Nat)  : Option (Bool) :=
  obind (setup_Box fl 4 4 ((0, (0, (0, (0, (0, (0, 0)))))), ((40, (0, (0, (0, (0, (0, 0)))))), (0, (20, (0, (0, (0, (0, 0))))))))) fun q0 =>
  bnd (F.eq q0.1 0) fun v1 =>
  bite v1 (
    bnd (F.eq q0.2.1 0) fun v2 =>
    bite v2 (
      bnd (F.eq q0.2.2.1 3) fun v3 =>
      bite v3 (
        bnd (F.eq q0.2.2.2 2) fun v4 =>
        bite v4 (
          obind (setup_Pixels 0 0 1 1) fun q5 =>
          some true) (
          some false)) (
        some false)) (
      some false)) (
    some false)

def glazierlaw10_gone_i36_l1 (fl : Nat) : Nat → Int → Int → Int → Int → Int → (Int × Int × Int × Int) → Int → (List (Int × Int)) → Option ((((Int × Int × Int × Int) × Int × (List (Int × Int)) × Unit) ⊕ (Int × Int × Int × Int × (Int × Int × Int × Int) × Int × (List (Int × Int)) × Unit)))
  | 0, _, _, _, _, _, _, _, _ => none
  | n + 1, x0, x1, x2, x3, x4, x5, x6, x7 =>
    bnd (F.lt x4 x2) fun v8 =>
    bite v8 (
      bgd (F.appOk 16 x7 [(x4, x3)]) (
        bnd (F.app x7 [(x4, x3)]) fun v9 =>
        bnd (F.len v9) fun v10 =>
        bnd (F.ge v10 x6) fun v11 =>
        bite v11 (
          some (.inl (x5, (x6, (v9, ()))))) (
          bnd (F.add .i64 x4 1) fun v12 =>
          glazierlaw10_gone_i36_l1 fl n x0 x1 x2 x3 v12 x5 x6 v9))) (
      some (.inr (x0, (x1, (x2, (x3, (x5, (x6, (x7, ())))))))))

def glazierlaw10_gone_i36_l2 (fl : Nat) : Nat → Int → Int → Int → Int → (Int × Int × Int × Int) → Int → (List (Int × Int)) → Option ((((Int × Int × Int × Int) × Int × (List (Int × Int)) × Unit) ⊕ ((Int × Int × Int × Int) × Int × (List (Int × Int)) × Unit)))
  | 0, _, _, _, _, _, _, _ => none
  | n + 1, x0, x1, x2, x3, x4, x5, x6 =>
    bnd (F.lt x3 x0) fun v7 =>
    bite v7 (
      obind (glazierlaw10_gone_i36_l1 fl fl x0 x1 x2 x3 x1 x4 x5 x6) fun q8 =>
      osum q8 (fun s9 =>
        some (.inl (s9.1, (s9.2.1, (s9.2.2.1, ()))))) (fun r10 =>
        bnd (F.add .i64 r10.2.2.2.1 1) fun v11 =>
        glazierlaw10_gone_i36_l2 fl n r10.1 r10.2.1 r10.2.2.1 v11 r10.2.2.2.2.1 r10.2.2.2.2.2.1 r10.2.2.2.2.2.2.1)) (
      some (.inr (x4, (x5, (x6, ())))))

/-- glazier/glazierlaw10.gone -/
def glazierlaw10_gone (fl : Nat) (x0 : Int × Int × Int × Int) (x1 : Int) : Option ((List (Int × Int)) × Bool) :=
  obind (setup_Pixels x0.1 x0.2.1 x0.2.2.1 x0.2.2.2) fun q2 =>
  obind (glazierlaw10_gone_i36_l2 fl fl q2.2.1 q2.2.2.1 q2.2.2.2 q2.1 q2 x1 []) fun q3 =>
  osum q3 (fun s4 =>
    some (s4.2.2.1, true)) (fun r5 =>
    some (r5.2.2.1, true))

def glazierlaw10_SetupPixels_l1 (fl : Nat) : Nat → (List (Int × Int)) → (List (Int × Int)) → Int → Int → Int → Int → Int → Int → Option (((Unit) ⊕ (Unit)))
  | 0, _, _, _, _, _, _, _, _ => none
  | n + 1, x0, x1, x2, x3, x4, x5, x6, x7 =>
    bnd (F.lt x3 x2) fun v8 =>
    bite v8 (
      bnd (F.sub .i64 x6 x4) fun v9 =>
      bgd (F.nonzero v9) (
        bnd (F.rem x3 v9) fun v10 =>
        bnd (F.add .i64 x4 v10) fun v11 =>
        bnd (F.sub .i64 x6 x4) fun v12 =>
        bgd (F.nonzero v12) (
          bnd (F.quo .i64 x3 v12) fun v13 =>
          bnd (F.add .i64 x5 v13) fun v14 =>
          obind (F.get x0 x3) fun q15 =>
          bnd (F.not (F.both (F.eq q15.1 v11) (F.eq q15.2 v14))) fun v16 =>
          bite v16 (
            some (.inl ())) (
            bnd (F.len x1) fun v17 =>
            bnd (F.lt x3 v17) fun v18 =>
            bite v18 (
              obind (F.get x1 x3) fun q19 =>
              bnd (F.not (F.both (F.eq q19.1 v11) (F.eq q19.2 v14))) fun v20 =>
              bite v20 (
                some (.inl ())) (
                bnd (F.add .i64 x3 1) fun v21 =>
                glazierlaw10_SetupPixels_l1 fl n x0 x1 x2 v21 x4 x5 x6 x7)) (
              bnd (F.add .i64 x3 1) fun v22 =>
              glazierlaw10_SetupPixels_l1 fl n x0 x1 x2 v22 x4 x5 x6 x7))))) (
      some (.inr ()))

/-- glazier/glazierlaw10.SetupPixels -/
def glazierlaw10_SetupPixels (fl : Nat) (x0 : Int × Int × Int × Int) (x1 : Int) : Option (Bool) :=
  obind (glazierlaw10_shown fl) fun q2 =>
  bnd (F.conv .i64 x0.1) fun v3 =>
  bnd (F.rem v3 21) fun v4 =>
  bnd (F.conv .i64 x0.2.1) fun v5 =>
  bnd (F.rem v5 21) fun v6 =>
  bnd (F.conv .i64 x0.2.2.1) fun v7 =>
  bnd (F.rem v7 21) fun v8 =>
  bnd (F.conv .i64 x0.2.2.2) fun v9 =>
  bnd (F.rem v9 21) fun v10 =>
  obind (glazierlaw10_gone fl (v4, (v6, (v8, v10))) 100000) fun q11 =>
  bnd (F.conv .i64 x1) fun v12 =>
  bnd (F.rem v12 16) fun v13 =>
  bnd (F.add .i64 1 v13) fun v14 =>
  obind (glazierlaw10_gone fl (v4, (v6, (v8, v10))) v14) fun q15 =>
  bnd (F.sub .i64 v8 v4) fun v16 =>
  bnd (F.max v16 0) fun v17 =>
  bnd (F.sub .i64 v10 v6) fun v18 =>
  bnd (F.max v18 0) fun v19 =>
  bnd (F.mul .i64 v17 v19) fun v20 =>
  bnd (F.not q2) fun v21 =>
  bite v21 (
    some false) (
    bnd (F.not q11.2) fun v22 =>
    bite v22 (
      some false) (
      bnd (F.not q15.2) fun v23 =>
      bite v23 (
        some false) (
        bnd (F.len q11.1) fun v24 =>
        bnd (F.ne v24 v20) fun v25 =>
        bite v25 (
          some false) (
          bnd (F.len q15.1) fun v26 =>
          bnd (F.conv .i64 x1) fun v27 =>
          bnd (F.rem v27 16) fun v28 =>
          bnd (F.add .i64 1 v28) fun v29 =>
          bnd (F.min v20 v29) fun v30 =>
          bnd (F.ne v26 v30) fun v31 =>
          bite v31 (
            some false) (
            obind (glazierlaw10_SetupPixels_l1 fl fl q11.1 q15.1 v20 0 v4 v6 v8 v10) fun q32 =>
            osum q32 (fun s33 =>
              some false) (fun r34 =>
              some true))))))

/-- glazier/glazierref04.Fit -/
def glazierref04_Fit (x0 : Int × Int × Int × Int × Int × Int × Int × Int) : Option (Int × Int × Int × Int × Int × Int × Int × Int) :=
  bnd (F.rem x0.1 32769) fun v1 =>
  bnd (F.rem x0.2.1 32769) fun v2 =>
  bnd (F.rem x0.2.2.1 32769) fun v3 =>
  bnd (F.rem x0.2.2.2.1 32768) fun v4 =>
  bnd (F.lt v4 0) fun v5 =>
  bite v5 (
    bnd (F.neg .i64 v4) fun v6 =>
    bnd (F.add .i64 1 v6) fun v7 =>
    bnd (F.rem x0.2.2.2.2.1 4097) fun v8 =>
    bnd (F.rem x0.2.2.2.2.2.1 4097) fun v9 =>
    bnd (F.rem x0.2.2.2.2.2.2.1 4097) fun v10 =>
    bnd (F.rem x0.2.2.2.2.2.2.2 4097) fun v11 =>
    some (v1, (v2, (v3, (v7, (v8, (v9, (v10, v11)))))))) (
    bnd (F.add .i64 1 v4) fun v12 =>
    bnd (F.rem x0.2.2.2.2.1 4097) fun v13 =>
    bnd (F.rem x0.2.2.2.2.2.1 4097) fun v14 =>
    bnd (F.rem x0.2.2.2.2.2.2.1 4097) fun v15 =>
    bnd (F.rem x0.2.2.2.2.2.2.2 4097) fun v16 =>
    some (v1, (v2, (v3, (v12, (v13, (v14, (v15, v16))))))))

/-- glazier/glazierlaw10.fit -/
def glazierlaw10_fit (x0 : (Int × Int × Int × Int × Int × Int × Int × Int) × (Int × Int × Int × Int × Int × Int × Int × Int) × Int × Int × Int × Int × Int × Int × Int × Int) : Option ((Int × Int × Int × Int × Int × Int × Int × Int) × (Int × Int × Int × Int × Int × Int × Int × Int) × Int × Int × Int × Int × Int × Int × Int × Int) :=
  obind (glazierref04_Fit x0.1) fun q1 =>
  obind (glazierref04_Fit x0.2.1) fun q2 =>
  obind (glazierref04_Fit x0.2.2) fun q3 =>
  some (q1, (q2, q3))

/-- glazier/clip.own -/
def clip_own (x0 : List (Int × Int × Int × Int × Int × Int × Int × Int)) : Option (List (Int × Int × Int × Int × Int × Int × Int × Int)) :=
  bnd (F.len x0) fun v1 =>
  bgd (F.fillOk 64 v1) (
    bnd (F.overN (F.fill v1 (0, (0, (0, (0, (0, (0, (0, 0)))))))) x0) fun v2 =>
    some (F.over (F.fill v1 (0, (0, (0, (0, (0, (0, (0, 0)))))))) x0))

/-- glazier/vec.Dist -/
def vec_Dist (x0 : Int) (x1 : Int × Int × Int × Int × Int × Int × Int × Int) : Option (Int) :=
  bnd (F.lt x0 0) fun v2 =>
  bite v2 (
    some 0) (
    bnd (F.ge x0 5) fun v3 =>
    bite v3 (
      some 0) (
      bnd (F.mul .i64 4 x1.2.2.2.1) fun v4 =>
      bnd (F.add .i64 x1.2.2.1 x1.2.2.2.1) fun v5 =>
      bnd (F.add .i64 v4 x1.1) fun v6 =>
      bnd (F.sub .i64 v4 x1.1) fun v7 =>
      bnd (F.add .i64 v4 x1.2.1) fun v8 =>
      bnd (F.sub .i64 v4 x1.2.1) fun v9 =>
      obind (F.get [v5, v6, v7, v8, v9] x0) fun q10 =>
      some q10))

/-- glazier/vec.row -/
def vec_row (x0 : Int × Int × Int × Int × Int × Int × Int × Int) : Option (Int × Int × Int × Int × Int × Int × Int × Int) :=
  some x0

/-- glazier/vec.made -/
def vec_made (x0 : Int × Int × Int × Int × Int × Int × Int × Int) : Option (Int × Int × Int × Int × Int × Int × Int × Int) :=
  some x0

/-- glazier/vec.Between -/
def vec_Between (fl : Nat) (x0 : Int × Int × Int × Int × Int × Int × Int × Int) (x1 : Int × Int × Int × Int × Int × Int × Int × Int) (x2 : Int) : Option ((Int × Int × Int × Int × Int × Int × Int × Int) × Bool) :=
  obind (vec_Dist x2 x0) fun q3 =>
  obind (vec_Dist x2 x1) fun q4 =>
  bnd (F.lt x2 0) fun v5 =>
  bite v5 (
    some ((0, (0, (0, (0, (0, (0, (0, 0))))))), false)) (
    bnd (F.ge x2 5) fun v6 =>
    bite v6 (
      some ((0, (0, (0, (0, (0, (0, (0, 0))))))), false)) (
      bnd (F.lt q3 0) fun v7 =>
      bite v7 (
        some ((0, (0, (0, (0, (0, (0, (0, 0))))))), false)) (
        bnd (F.ge q4 0) fun v8 =>
        bite v8 (
          some ((0, (0, (0, (0, (0, (0, (0, 0))))))), false)) (
          obind (vec_row x0) fun q9 =>
          obind (vec_row x1) fun q10 =>
          bnd (F.sub .i64 q10.1 q9.1) fun v11 =>
          bnd (F.sub .i64 q3 q4) fun v12 =>
          obind (fixed_MulDiv fl v11 q3 v12) fun q13 =>
          bnd (F.add .i64 q9.1 q13.1) fun v14 =>
          bnd (F.sub .i64 q10.2.1 q9.2.1) fun v15 =>
          bnd (F.sub .i64 q3 q4) fun v16 =>
          obind (fixed_MulDiv fl v15 q3 v16) fun q17 =>
          bnd (F.add .i64 q9.2.1 q17.1) fun v18 =>
          bnd (F.sub .i64 q10.2.2.1 q9.2.2.1) fun v19 =>
          bnd (F.sub .i64 q3 q4) fun v20 =>
          obind (fixed_MulDiv fl v19 q3 v20) fun q21 =>
          bnd (F.add .i64 q9.2.2.1 q21.1) fun v22 =>
          bnd (F.sub .i64 q10.2.2.2.1 q9.2.2.2.1) fun v23 =>
          bnd (F.sub .i64 q3 q4) fun v24 =>
          obind (fixed_MulDiv fl v23 q3 v24) fun q25 =>
          bnd (F.add .i64 q9.2.2.2.1 q25.1) fun v26 =>
          bnd (F.sub .i64 q10.2.2.2.2.1 q9.2.2.2.2.1) fun v27 =>
          bnd (F.sub .i64 q3 q4) fun v28 =>
          obind (fixed_MulDiv fl v27 q3 v28) fun q29 =>
          bnd (F.add .i64 q9.2.2.2.2.1 q29.1) fun v30 =>
          bnd (F.sub .i64 q10.2.2.2.2.2.1 q9.2.2.2.2.2.1) fun v31 =>
          bnd (F.sub .i64 q3 q4) fun v32 =>
          obind (fixed_MulDiv fl v31 q3 v32) fun q33 =>
          bnd (F.add .i64 q9.2.2.2.2.2.1 q33.1) fun v34 =>
          bnd (F.sub .i64 q10.2.2.2.2.2.2.1 q9.2.2.2.2.2.2.1) fun v35 =>
          bnd (F.sub .i64 q3 q4) fun v36 =>
          obind (fixed_MulDiv fl v35 q3 v36) fun q37 =>
          bnd (F.add .i64 q9.2.2.2.2.2.2.1 q37.1) fun v38 =>
          bnd (F.sub .i64 q10.2.2.2.2.2.2.2 q9.2.2.2.2.2.2.2) fun v39 =>
          bnd (F.sub .i64 q3 q4) fun v40 =>
          obind (fixed_MulDiv fl v39 q3 v40) fun q41 =>
          bnd (F.add .i64 q9.2.2.2.2.2.2.2 q41.1) fun v42 =>
          obind (vec_made (v14, (v18, (v22, (v26, (v30, (v34, (v38, v42)))))))) fun q43 =>
          some (q43, true)))))

def clip_By_l1 (fl : Nat) : Nat → Int → (List (Int × Int × Int × Int × Int × Int × Int × Int)) → (List (Int × Int × Int × Int × Int × Int × Int × Int)) → (List (Int × Int × Int × Int × Int × Int × Int × Int)) → Int → Int → Option ((List (Int × Int × Int × Int × Int × Int × Int × Int)) × Unit)
  | 0, _, _, _, _, _, _ => none
  | n + 1, x0, x1, x2, x3, x4, x5 =>
    bnd (F.lt x5 x4) fun v6 =>
    bite v6 (
      obind (F.get x3 x5) fun q7 =>
      bnd (F.add .i64 x5 1) fun v8 =>
      bnd (F.len x1) fun v9 =>
      bgd (F.nonzero v9) (
        bnd (F.rem v8 v9) fun v10 =>
        obind (F.get x1 v10) fun q11 =>
        obind (vec_Dist x0 q7) fun q12 =>
        bnd (F.ge q12 0) fun v13 =>
        bite v13 (
          bgd (F.appOk 64 x2 [q7]) (
            bnd (F.app x2 [q7]) fun v14 =>
            obind (vec_Between fl q7 q11 x0) fun q15 =>
            bite q15.2 (
              bgd (F.appOk 64 v14 [q15.1]) (
                bnd (F.app v14 [q15.1]) fun v16 =>
                bnd (F.add .i64 x5 1) fun v17 =>
                clip_By_l1 fl n x0 x1 v16 x3 x4 v17)) (
              bnd (F.add .i64 x5 1) fun v18 =>
              clip_By_l1 fl n x0 x1 v14 x3 x4 v18))) (
          obind (vec_Between fl q11 q7 x0) fun q19 =>
          bite q19.2 (
            bgd (F.appOk 64 x2 [q19.1]) (
              bnd (F.app x2 [q19.1]) fun v20 =>
              bnd (F.add .i64 x5 1) fun v21 =>
              clip_By_l1 fl n x0 x1 v20 x3 x4 v21)) (
            bnd (F.add .i64 x5 1) fun v22 =>
            clip_By_l1 fl n x0 x1 x2 x3 x4 v22)))) (
      some (x2, ()))

/-- glazier/clip.By -/
def clip_By (fl : Nat) (x0 : Int) (x1 : List (Int × Int × Int × Int × Int × Int × Int × Int)) : Option (List (Int × Int × Int × Int × Int × Int × Int × Int)) :=
  bnd (F.lt x0 0) fun v2 =>
  bite v2 (
    obind (clip_own x1) fun q3 =>
    some q3) (
    bnd (F.ge x0 5) fun v4 =>
    bite v4 (
      obind (clip_own x1) fun q5 =>
      some q5) (
      bnd (F.len x1) fun v6 =>
      obind (clip_By_l1 fl fl x0 x1 [] x1 v6 0) fun q7 =>
      some q7.1))

/-- glazier/clip.Poly -/
def clip_Poly (fl : Nat) (x0 : List (Int × Int × Int × Int × Int × Int × Int × Int)) : Option (List (Int × Int × Int × Int × Int × Int × Int × Int)) :=
  obind (clip_own x0) fun q1 =>
  obind (clip_By fl 0 q1) fun q2 =>
  obind (clip_By fl 1 q2) fun q3 =>
  obind (clip_By fl 2 q3) fun q4 =>
  obind (clip_By fl 3 q4) fun q5 =>
  obind (clip_By fl 4 q5) fun q6 =>
  bnd (F.len q6) fun v7 =>
  bnd (F.lt v7 3) fun v8 =>
  bite v8 (
    some []) (
    some q6)

/-- glazier/view.Point$1 -/
def view_Point_1 (fl : Nat) (x0 : Int) (x1 : Int) (x2 : Int × Int × Int × Int × Int × Int × Int × Int) : Option (Int) :=
  obind (fixed_MulDiv fl x0 x1 x2.2.2.2.1) fun q3 =>
  bnd (F.add .i64 q3.1 x1) fun v4 =>
  some v4

/-- glazier/view.Point -/
def view_Point (fl : Nat) (x0 : Int) (x1 : Int) (x2 : Int × Int × Int × Int × Int × Int × Int × Int) : Option ((Int × Int × Int × Int × Int × Int × Int) × Bool) :=
  bnd (F.min (F.min x0 x1) x2.2.2.2.1) fun v3 =>
  bnd (F.lt v3 1) fun v4 =>
  bite v4 (
    some ((0, (0, (0, (0, (0, (0, 0)))))), false)) (
    bnd (F.max x0 x1) fun v5 =>
    bnd (F.gt v5 64) fun v6 =>
    bite v6 (
      some ((0, (0, (0, (0, (0, (0, 0)))))), false)) (
      bnd (F.mul .i64 8 x0) fun v7 =>
      obind (view_Point_1 fl x2.1 v7 x2) fun q8 =>
      bnd (F.mul .i64 8 x1) fun v9 =>
      obind (view_Point_1 fl x2.2.1 v9 x2) fun q10 =>
      obind (view_Point_1 fl x2.2.2.1 32768 x2) fun q11 =>
      some ((q8, (q10, (q11, x2.2.2.2.2))), true)))

def view_Points_l1 (fl : Nat) : Nat → Int → Int → (List (Int × Int × Int × Int × Int × Int × Int)) → (List (Int × Int × Int × Int × Int × Int × Int × Int)) → Int → Int → Option (((Unit) ⊕ ((List (Int × Int × Int × Int × Int × Int × Int)) × Unit)))
  | 0, _, _, _, _, _, _ => none
  | n + 1, x0, x1, x2, x3, x4, x5 =>
    bnd (F.lt x5 x4) fun v6 =>
    bite v6 (
      obind (F.get x3 x5) fun q7 =>
      obind (view_Point fl x0 x1 q7) fun q8 =>
      bnd (F.not q8.2) fun v9 =>
      bite v9 (
        some (.inl ())) (
        bgd (F.appOk 56 x2 [q8.1]) (
          bnd (F.app x2 [q8.1]) fun v10 =>
          bnd (F.add .i64 x5 1) fun v11 =>
          view_Points_l1 fl n x0 x1 v10 x3 x4 v11))) (
      some (.inr (x2, ())))

/-- glazier/view.Points -/
def view_Points (fl : Nat) (x0 : Int) (x1 : Int) (x2 : List (Int × Int × Int × Int × Int × Int × Int × Int)) : Option ((List (Int × Int × Int × Int × Int × Int × Int)) × Bool) :=
  bnd (F.len x2) fun v3 =>
  obind (view_Points_l1 fl fl x0 x1 [] x2 v3 0) fun q4 =>
  osum q4 (fun s5 =>
    some ([], false)) (fun r6 =>
    some (r6.1, true))

/-- glazier/edge.Cross -/
def edge_Cross (x0 : Int × Int × Int × Int × Int × Int × Int) (x1 : Int × Int × Int × Int × Int × Int × Int) (x2 : Int) (x3 : Int) : Option (Int) :=
  bnd (F.sub .i64 x1.1 x0.1) fun v4 =>
  bnd (F.sub .i64 x3 x0.2.1) fun v5 =>
  bnd (F.mul .i64 v4 v5) fun v6 =>
  bnd (F.sub .i64 x1.2.1 x0.2.1) fun v7 =>
  bnd (F.sub .i64 x2 x0.1) fun v8 =>
  bnd (F.mul .i64 v7 v8) fun v9 =>
  bnd (F.sub .i64 v6 v9) fun v10 =>
  some v10

/-- glazier/edge.Area -/
def edge_Area (x0 : (Int × Int × Int × Int × Int × Int × Int) × (Int × Int × Int × Int × Int × Int × Int) × Int × Int × Int × Int × Int × Int × Int) : Option (Int) :=
  obind (edge_Cross x0.1 x0.2.1 x0.2.2.1 x0.2.2.2.1) fun q1 =>
  some q1

/-- glazier/edge.Turned -/
def edge_Turned (x0 : (Int × Int × Int × Int × Int × Int × Int) × (Int × Int × Int × Int × Int × Int × Int) × Int × Int × Int × Int × Int × Int × Int) : Option (((Int × Int × Int × Int × Int × Int × Int) × (Int × Int × Int × Int × Int × Int × Int) × Int × Int × Int × Int × Int × Int × Int) × Bool) :=
  obind (edge_Area x0) fun q1 =>
  bnd (F.eq q1 0) fun v2 =>
  bite v2 (
    some (((0, (0, (0, (0, (0, (0, 0)))))), ((0, (0, (0, (0, (0, (0, 0)))))), (0, (0, (0, (0, (0, (0, 0)))))))), false)) (
    bnd (F.lt q1 0) fun v3 =>
    bite v3 (
      some ((x0.1, (x0.2.2, x0.2.1)), true)) (
      some (x0, true)))

def setup_Parts_l1 (fl : Nat) : Nat → (List (Int × Int × Int × Int × Int × Int × Int)) → (List (Int × (Int × Int × Int × Int × Int × Int × Int) × (Int × Int × Int × Int × Int × Int × Int) × Int × Int × Int × Int × Int × Int × Int)) → Int → Option ((List (Int × (Int × Int × Int × Int × Int × Int × Int) × (Int × Int × Int × Int × Int × Int × Int) × Int × Int × Int × Int × Int × Int × Int)) × Unit)
  | 0, _, _, _ => none
  | n + 1, x0, x1, x2 =>
    bnd (F.len x0) fun v3 =>
    bnd (F.lt x2 v3) fun v4 =>
    bite v4 (
      obind (F.get x0 0) fun q5 =>
      bnd (F.sub .i64 x2 1) fun v6 =>
      obind (F.get x0 v6) fun q7 =>
      obind (F.get x0 x2) fun q8 =>
      obind (edge_Turned (q5, (q7, q8))) fun q9 =>
      bite q9.2 (
        bnd (F.sub .i64 x2 2) fun v10 =>
        bgd (F.appOk 176 x1 [(v10, q9.1)]) (
          bnd (F.app x1 [(v10, q9.1)]) fun v11 =>
          bnd (F.add .i64 x2 1) fun v12 =>
          setup_Parts_l1 fl n x0 v11 v12)) (
        bnd (F.add .i64 x2 1) fun v13 =>
        setup_Parts_l1 fl n x0 x1 v13)) (
      some (x1, ()))

/-- glazier/setup.Parts -/
def setup_Parts (fl : Nat) (x0 : Int) (x1 : Int) (x2 : (Int × Int × Int × Int × Int × Int × Int × Int) × (Int × Int × Int × Int × Int × Int × Int × Int) × Int × Int × Int × Int × Int × Int × Int × Int) : Option (List (Int × (Int × Int × Int × Int × Int × Int × Int) × (Int × Int × Int × Int × Int × Int × Int) × Int × Int × Int × Int × Int × Int × Int)) :=
  obind (clip_Poly fl [x2.1, x2.2.1, x2.2.2]) fun q3 =>
  obind (view_Points fl x0 x1 q3) fun q4 =>
  obind (setup_Parts_l1 fl fl q4.1 [] 2) fun q5 =>
  some q5.1

/-- glazier/glazierref04.Dist -/
def glazierref04_Dist (x0 : Int) (x1 : Int × Int × Int × Int × Int × Int × Int × Int) : Option (Int) :=
  bnd (F.eq x0 0) fun v2 =>
  bite v2 (
    bnd (F.add .i64 x1.2.2.1 x1.2.2.2.1) fun v3 =>
    some v3) (
    bnd (F.eq x0 1) fun v4 =>
    bite v4 (
      bnd (F.mul .i64 4 x1.2.2.2.1) fun v5 =>
      bnd (F.add .i64 v5 x1.1) fun v6 =>
      some v6) (
      bnd (F.eq x0 2) fun v7 =>
      bite v7 (
        bnd (F.mul .i64 4 x1.2.2.2.1) fun v8 =>
        bnd (F.sub .i64 v8 x1.1) fun v9 =>
        some v9) (
        bnd (F.eq x0 3) fun v10 =>
        bite v10 (
          bnd (F.mul .i64 4 x1.2.2.2.1) fun v11 =>
          bnd (F.add .i64 v11 x1.2.1) fun v12 =>
          some v12) (
          bnd (F.eq x0 4) fun v13 =>
          bite v13 (
            bnd (F.mul .i64 4 x1.2.2.2.1) fun v14 =>
            bnd (F.sub .i64 v14 x1.2.1) fun v15 =>
            some v15) (
            some 0)))))

/-- glazier/glazierref01.size -/
def glazierref01_size (x0 : Int) : Option (Int) :=
  bnd (F.lt x0 0) fun v1 =>
  bite v1 (
    bnd (F.conv .u64 x0) fun v2 =>
    bnd (F.sub .u64 0 v2) fun v3 =>
    some v3) (
    bnd (F.conv .u64 x0) fun v4 =>
    some v4)

def glazierref01_times_l1 (fl : Nat) : Nat → Int → Int → Int → Int → Int → Int → Int → Option (Int × Int × Int × Int × Unit)
  | 0, _, _, _, _, _, _, _ => none
  | n + 1, x0, x1, x2, x3, x4, x5, x6 =>
    bnd (F.ge x6 0) fun v7 =>
    bite v7 (
      bnd (F.mul .u64 x4 2) fun v8 =>
      bnd (F.quo .u64 x5 9223372036854775808) fun v9 =>
      bnd (F.add .u64 v8 v9) fun v10 =>
      bnd (F.mul .u64 x5 2) fun v11 =>
      bgd (F.nonneg x6) (
        bnd (F.shr .u64 x2 x6) fun v12 =>
        bnd (F.rem v12 2) fun v13 =>
        bnd (F.eq v13 1) fun v14 =>
        bite v14 (
          bnd (F.add .u64 v11 x3) fun v15 =>
          bnd (F.lt v15 v11) fun v16 =>
          bite v16 (
            bnd (F.add .u64 v10 1) fun v17 =>
            bnd (F.sub .i64 x6 1) fun v18 =>
            glazierref01_times_l1 fl n x0 x1 x2 x3 v17 v15 v18) (
            bnd (F.sub .i64 x6 1) fun v19 =>
            glazierref01_times_l1 fl n x0 x1 x2 x3 v10 v15 v19)) (
          bnd (F.sub .i64 x6 1) fun v20 =>
          glazierref01_times_l1 fl n x0 x1 x2 x3 v10 v11 v20))) (
      some (x0, (x1, (x4, (x5, ())))))

/-- glazier/glazierref01.times -/
def glazierref01_times (fl : Nat) (x0 : Int) (x1 : Int) : Option (Int × Int × Bool) :=
  obind (glazierref01_size x0) fun q2 =>
  obind (glazierref01_size x1) fun q3 =>
  obind (glazierref01_times_l1 fl fl x0 x1 q2 q3 0 0 63) fun q4 =>
  bnd (F.lt q4.1 0) fun v5 =>
  bnd (F.lt q4.2.1 0) fun v6 =>
  bnd (F.bne v5 v6) fun v7 =>
  bite v7 (
    bnd (F.gt q4.2.2.1 0) fun v8 =>
    bite v8 (
      some (q4.2.2.1, (q4.2.2.2.1, true))) (
      bnd (F.gt q4.2.2.2.1 0) fun v9 =>
      some (q4.2.2.1, (q4.2.2.2.1, v9)))) (
    some (q4.2.2.1, (q4.2.2.2.1, false)))

def glazierref01_parts_l1 (fl : Nat) : Nat → Int → Int → Int → Int → Int → Int → Int → Bool → Option (Int × Int × Int × Unit)
  | 0, _, _, _, _, _, _, _, _ => none
  | n + 1, x0, x1, x2, x3, x4, x5, x6, x7 =>
    bnd (F.ge x4 0) fun v8 =>
    bite v8 (
      bnd (F.gt x4 63) fun v9 =>
      bite v9 (
        bnd (F.sub .i64 x4 64) fun v10 =>
        bgd (F.nonneg v10) (
          bnd (F.shr .u64 x5 v10) fun v11 =>
          bnd (F.rem v11 2) fun v12 =>
          bnd (F.ge x3 9223372036854775808) fun v13 =>
          bnd (F.mul .u64 x3 2) fun v14 =>
          bnd (F.add .u64 v14 v12) fun v15 =>
          bnd (F.mul .u64 x1 2) fun v16 =>
          bnd (F.quo .u64 x2 9223372036854775808) fun v17 =>
          bnd (F.add .u64 v16 v17) fun v18 =>
          bnd (F.mul .u64 x2 2) fun v19 =>
          bite v13 (
            bnd (F.sub .u64 v15 x0) fun v20 =>
            bnd (F.add .u64 v19 1) fun v21 =>
            bnd (F.sub .i64 x4 1) fun v22 =>
            glazierref01_parts_l1 fl n x0 v18 v21 v20 v22 x5 x6 x7) (
            bnd (F.ge v15 x0) fun v23 =>
            bite v23 (
              bnd (F.sub .u64 v15 x0) fun v24 =>
              bnd (F.add .u64 v19 1) fun v25 =>
              bnd (F.sub .i64 x4 1) fun v26 =>
              glazierref01_parts_l1 fl n x0 v18 v25 v24 v26 x5 x6 x7) (
              bnd (F.sub .i64 x4 1) fun v27 =>
              glazierref01_parts_l1 fl n x0 v18 v19 v15 v27 x5 x6 x7)))) (
        bgd (F.nonneg x4) (
          bnd (F.shr .u64 x6 x4) fun v28 =>
          bnd (F.rem v28 2) fun v29 =>
          bnd (F.ge x3 9223372036854775808) fun v30 =>
          bnd (F.mul .u64 x3 2) fun v31 =>
          bnd (F.add .u64 v31 v29) fun v32 =>
          bnd (F.mul .u64 x1 2) fun v33 =>
          bnd (F.quo .u64 x2 9223372036854775808) fun v34 =>
          bnd (F.add .u64 v33 v34) fun v35 =>
          bnd (F.mul .u64 x2 2) fun v36 =>
          bite v30 (
            bnd (F.sub .u64 v32 x0) fun v37 =>
            bnd (F.add .u64 v36 1) fun v38 =>
            bnd (F.sub .i64 x4 1) fun v39 =>
            glazierref01_parts_l1 fl n x0 v35 v38 v37 v39 x5 x6 x7) (
            bnd (F.ge v32 x0) fun v40 =>
            bite v40 (
              bnd (F.sub .u64 v32 x0) fun v41 =>
              bnd (F.add .u64 v36 1) fun v42 =>
              bnd (F.sub .i64 x4 1) fun v43 =>
              glazierref01_parts_l1 fl n x0 v35 v42 v41 v43 x5 x6 x7) (
              bnd (F.sub .i64 x4 1) fun v44 =>
              glazierref01_parts_l1 fl n x0 v35 v36 v32 v44 x5 x6 x7))))) (
      some (x1, (x2, (x3, ()))))

/-- glazier/glazierref01.parts -/
def glazierref01_parts (fl : Nat) (x0 : Int × Int × Bool) (x1 : Int) : Option (Int × Int × Int) :=
  obind (glazierref01_parts_l1 fl fl x1 0 0 0 127 x0.1 x0.2.1 x0.2.2) fun q2 =>
  some (q2.1, (q2.2.1, q2.2.2.1))

/-- glazier/glazierref01.told -/
def glazierref01_told (x0 : Int) (x1 : Int) (x2 : Bool) : Option (Int × Int) :=
  bite x2 (
    bnd (F.gt x0 0) fun v3 =>
    bite v3 (
      some (0, 2)) (
      bnd (F.gt x1 9223372036854775808) fun v4 =>
      bite v4 (
        some (0, 2)) (
        bite x2 (
          bnd (F.sub .u64 0 x1) fun v5 =>
          bnd (F.conv .i64 v5) fun v6 =>
          some (v6, 0)) (
          bnd (F.conv .i64 x1) fun v7 =>
          some (v7, 0))))) (
    bnd (F.gt x0 0) fun v8 =>
    bite v8 (
      some (0, 2)) (
      bnd (F.gt x1 9223372036854775807) fun v9 =>
      bite v9 (
        some (0, 2)) (
        bite x2 (
          bnd (F.sub .u64 0 x1) fun v10 =>
          bnd (F.conv .i64 v10) fun v11 =>
          some (v11, 0)) (
          bnd (F.conv .i64 x1) fun v12 =>
          some (v12, 0)))))

/-- glazier/glazierref01.MulDiv -/
def glazierref01_MulDiv (fl : Nat) (x0 : Int) (x1 : Int) (x2 : Int) : Option (Int × Int) :=
  bnd (F.eq x2 0) fun v3 =>
  bite v3 (
    some (0, 3)) (
    obind (glazierref01_times fl x0 x1) fun q4 =>
    bnd (F.lt x2 0) fun v5 =>
    bnd (F.bne q4.2.2 v5) fun v6 =>
    bite v6 (
      bnd (F.gt q4.1 0) fun v7 =>
      bite v7 (
        obind (glazierref01_size x2) fun q8 =>
        obind (glazierref01_parts fl q4 q8) fun q9 =>
        bnd (F.gt q9.2.2 0) fun v10 =>
        bite v10 (
          bnd (F.add .u64 q9.2.1 1) fun v11 =>
          bnd (F.eq v11 0) fun v12 =>
          bite v12 (
            bnd (F.add .u64 q9.1 1) fun v13 =>
            obind (glazierref01_told v13 v11 true) fun q14 =>
            some q14) (
            obind (glazierref01_told q9.1 v11 true) fun q15 =>
            some q15)) (
          obind (glazierref01_told q9.1 q9.2.1 true) fun q16 =>
          some q16)) (
        bnd (F.gt q4.2.1 0) fun v17 =>
        obind (glazierref01_size x2) fun q18 =>
        obind (glazierref01_parts fl q4 q18) fun q19 =>
        bite v17 (
          bnd (F.gt q19.2.2 0) fun v20 =>
          bite v20 (
            bnd (F.add .u64 q19.2.1 1) fun v21 =>
            bnd (F.eq v21 0) fun v22 =>
            bite v22 (
              bnd (F.add .u64 q19.1 1) fun v23 =>
              obind (glazierref01_told v23 v21 v17) fun q24 =>
              some q24) (
              obind (glazierref01_told q19.1 v21 v17) fun q25 =>
              some q25)) (
            obind (glazierref01_told q19.1 q19.2.1 v17) fun q26 =>
            some q26)) (
          obind (glazierref01_told q19.1 q19.2.1 v17) fun q27 =>
          some q27))) (
      obind (glazierref01_size x2) fun q28 =>
      obind (glazierref01_parts fl q4 q28) fun q29 =>
      obind (glazierref01_told q29.1 q29.2.1 false) fun q30 =>
      some q30))

/-- glazier/glazierref01.Floor -/
def glazierref01_Floor (fl : Nat) (x0 : Int) (x1 : Int) : Option (Int × Int) :=
  obind (glazierref01_MulDiv fl x0 1 x1) fun q2 =>
  some q2

/-- glazier/glazierref01.Down -/
def glazierref01_Down (fl : Nat) (x0 : Int) (x1 : Int) : Option (Int) :=
  obind (glazierref01_Floor fl x0 x1) fun q2 =>
  some q2.1

/-- glazier/glazierref04.Between -/
def glazierref04_Between (fl : Nat) (x0 : Int × Int × Int × Int × Int × Int × Int × Int) (x1 : Int × Int × Int × Int × Int × Int × Int × Int) (x2 : Int) : Option ((Int × Int × Int × Int × Int × Int × Int × Int) × Bool) :=
  obind (glazierref04_Dist x2 x0) fun q3 =>
  obind (glazierref04_Dist x2 x1) fun q4 =>
  bnd (F.lt x2 0) fun v5 =>
  bite v5 (
    some ((0, (0, (0, (0, (0, (0, (0, 0))))))), false)) (
    bnd (F.gt x2 4) fun v6 =>
    bite v6 (
      some ((0, (0, (0, (0, (0, (0, (0, 0))))))), false)) (
      bnd (F.lt q3 0) fun v7 =>
      bite v7 (
        some ((0, (0, (0, (0, (0, (0, (0, 0))))))), false)) (
        bnd (F.ge q4 0) fun v8 =>
        bite v8 (
          some ((0, (0, (0, (0, (0, (0, (0, 0))))))), false)) (
          bnd (F.sub .i64 x1.1 x0.1) fun v9 =>
          bnd (F.mul .i64 v9 q3) fun v10 =>
          bnd (F.sub .i64 q3 q4) fun v11 =>
          obind (glazierref01_Down fl v10 v11) fun q12 =>
          bnd (F.add .i64 x0.1 q12) fun v13 =>
          bnd (F.sub .i64 x1.2.1 x0.2.1) fun v14 =>
          bnd (F.mul .i64 v14 q3) fun v15 =>
          bnd (F.sub .i64 q3 q4) fun v16 =>
          obind (glazierref01_Down fl v15 v16) fun q17 =>
          bnd (F.add .i64 x0.2.1 q17) fun v18 =>
          bnd (F.sub .i64 x1.2.2.1 x0.2.2.1) fun v19 =>
          bnd (F.mul .i64 v19 q3) fun v20 =>
          bnd (F.sub .i64 q3 q4) fun v21 =>
          obind (glazierref01_Down fl v20 v21) fun q22 =>
          bnd (F.add .i64 x0.2.2.1 q22) fun v23 =>
          bnd (F.sub .i64 x1.2.2.2.1 x0.2.2.2.1) fun v24 =>
          bnd (F.mul .i64 v24 q3) fun v25 =>
          bnd (F.sub .i64 q3 q4) fun v26 =>
          obind (glazierref01_Down fl v25 v26) fun q27 =>
          bnd (F.add .i64 x0.2.2.2.1 q27) fun v28 =>
          bnd (F.sub .i64 x1.2.2.2.2.1 x0.2.2.2.2.1) fun v29 =>
          bnd (F.mul .i64 v29 q3) fun v30 =>
          bnd (F.sub .i64 q3 q4) fun v31 =>
          obind (glazierref01_Down fl v30 v31) fun q32 =>
          bnd (F.add .i64 x0.2.2.2.2.1 q32) fun v33 =>
          bnd (F.sub .i64 x1.2.2.2.2.2.1 x0.2.2.2.2.2.1) fun v34 =>
          bnd (F.mul .i64 v34 q3) fun v35 =>
          bnd (F.sub .i64 q3 q4) fun v36 =>
          obind (glazierref01_Down fl v35 v36) fun q37 =>
          bnd (F.add .i64 x0.2.2.2.2.2.1 q37) fun v38 =>
          bnd (F.sub .i64 x1.2.2.2.2.2.2.1 x0.2.2.2.2.2.2.1) fun v39 =>
          bnd (F.mul .i64 v39 q3) fun v40 =>
          bnd (F.sub .i64 q3 q4) fun v41 =>
          obind (glazierref01_Down fl v40 v41) fun q42 =>
          bnd (F.add .i64 x0.2.2.2.2.2.2.1 q42) fun v43 =>
          bnd (F.sub .i64 x1.2.2.2.2.2.2.2 x0.2.2.2.2.2.2.2) fun v44 =>
          bnd (F.mul .i64 v44 q3) fun v45 =>
          bnd (F.sub .i64 q3 q4) fun v46 =>
          obind (glazierref01_Down fl v45 v46) fun q47 =>
          bnd (F.add .i64 x0.2.2.2.2.2.2.2 q47) fun v48 =>
          some ((v13, (v18, (v23, (v28, (v33, (v38, (v43, v48))))))), true)))))

def glazierref05_By_l1 (fl : Nat) : Nat → Int → (List (Int × Int × Int × Int × Int × Int × Int × Int)) → (List (Int × Int × Int × Int × Int × Int × Int × Int)) → Int → Option ((List (Int × Int × Int × Int × Int × Int × Int × Int)) × Unit)
  | 0, _, _, _, _ => none
  | n + 1, x0, x1, x2, x3 =>
    bnd (F.len x1) fun v4 =>
    bnd (F.lt x3 v4) fun v5 =>
    bite v5 (
      obind (F.get x1 x3) fun q6 =>
      bnd (F.add .i64 x3 1) fun v7 =>
      bnd (F.len x1) fun v8 =>
      bgd (F.nonzero v8) (
        bnd (F.rem v7 v8) fun v9 =>
        obind (F.get x1 v9) fun q10 =>
        obind (glazierref04_Dist x0 q6) fun q11 =>
        bnd (F.ge q11 0) fun v12 =>
        obind (glazierref04_Dist x0 q10) fun q13 =>
        bnd (F.ge q13 0) fun v14 =>
        bite v12 (
          bgd (F.appOk 64 x2 [q6]) (
            bnd (F.app x2 [q6]) fun v15 =>
            bite v12 (
              bnd (F.not v14) fun v16 =>
              bite v16 (
                obind (glazierref04_Between fl q6 q10 x0) fun q17 =>
                bgd (F.appOk 64 v15 [q17.1]) (
                  bnd (F.app v15 [q17.1]) fun v18 =>
                  bnd (F.not v12) fun v19 =>
                  bite v19 (
                    bite v14 (
                      obind (glazierref04_Between fl q10 q6 x0) fun q20 =>
                      bgd (F.appOk 64 v18 [q20.1]) (
                        bnd (F.app v18 [q20.1]) fun v21 =>
                        bnd (F.add .i64 x3 1) fun v22 =>
                        glazierref05_By_l1 fl n x0 x1 v21 v22)) (
                      bnd (F.add .i64 x3 1) fun v23 =>
                      glazierref05_By_l1 fl n x0 x1 v18 v23)) (
                    bnd (F.add .i64 x3 1) fun v24 =>
                    glazierref05_By_l1 fl n x0 x1 v18 v24))) (
                bnd (F.not v12) fun v25 =>
                bite v25 (
                  bite v14 (
                    obind (glazierref04_Between fl q10 q6 x0) fun q26 =>
                    bgd (F.appOk 64 v15 [q26.1]) (
                      bnd (F.app v15 [q26.1]) fun v27 =>
                      bnd (F.add .i64 x3 1) fun v28 =>
                      glazierref05_By_l1 fl n x0 x1 v27 v28)) (
                    bnd (F.add .i64 x3 1) fun v29 =>
                    glazierref05_By_l1 fl n x0 x1 v15 v29)) (
                  bnd (F.add .i64 x3 1) fun v30 =>
                  glazierref05_By_l1 fl n x0 x1 v15 v30))) (
              bnd (F.not v12) fun v31 =>
              bite v31 (
                bite v14 (
                  obind (glazierref04_Between fl q10 q6 x0) fun q32 =>
                  bgd (F.appOk 64 v15 [q32.1]) (
                    bnd (F.app v15 [q32.1]) fun v33 =>
                    bnd (F.add .i64 x3 1) fun v34 =>
                    glazierref05_By_l1 fl n x0 x1 v33 v34)) (
                  bnd (F.add .i64 x3 1) fun v35 =>
                  glazierref05_By_l1 fl n x0 x1 v15 v35)) (
                bnd (F.add .i64 x3 1) fun v36 =>
                glazierref05_By_l1 fl n x0 x1 v15 v36)))) (
          bite v12 (
            bnd (F.not v14) fun v37 =>
            bite v37 (
              obind (glazierref04_Between fl q6 q10 x0) fun q38 =>
              bgd (F.appOk 64 x2 [q38.1]) (
                bnd (F.app x2 [q38.1]) fun v39 =>
                bnd (F.not v12) fun v40 =>
                bite v40 (
                  bite v14 (
                    obind (glazierref04_Between fl q10 q6 x0) fun q41 =>
                    bgd (F.appOk 64 v39 [q41.1]) (
                      bnd (F.app v39 [q41.1]) fun v42 =>
                      bnd (F.add .i64 x3 1) fun v43 =>
                      glazierref05_By_l1 fl n x0 x1 v42 v43)) (
                    bnd (F.add .i64 x3 1) fun v44 =>
                    glazierref05_By_l1 fl n x0 x1 v39 v44)) (
                  bnd (F.add .i64 x3 1) fun v45 =>
                  glazierref05_By_l1 fl n x0 x1 v39 v45))) (
              bnd (F.not v12) fun v46 =>
              bite v46 (
                bite v14 (
                  obind (glazierref04_Between fl q10 q6 x0) fun q47 =>
                  bgd (F.appOk 64 x2 [q47.1]) (
                    bnd (F.app x2 [q47.1]) fun v48 =>
                    bnd (F.add .i64 x3 1) fun v49 =>
                    glazierref05_By_l1 fl n x0 x1 v48 v49)) (
                  bnd (F.add .i64 x3 1) fun v50 =>
                  glazierref05_By_l1 fl n x0 x1 x2 v50)) (
                bnd (F.add .i64 x3 1) fun v51 =>
                glazierref05_By_l1 fl n x0 x1 x2 v51))) (
            bnd (F.not v12) fun v52 =>
            bite v52 (
              bite v14 (
                obind (glazierref04_Between fl q10 q6 x0) fun q53 =>
                bgd (F.appOk 64 x2 [q53.1]) (
                  bnd (F.app x2 [q53.1]) fun v54 =>
                  bnd (F.add .i64 x3 1) fun v55 =>
                  glazierref05_By_l1 fl n x0 x1 v54 v55)) (
                bnd (F.add .i64 x3 1) fun v56 =>
                glazierref05_By_l1 fl n x0 x1 x2 v56)) (
              bnd (F.add .i64 x3 1) fun v57 =>
              glazierref05_By_l1 fl n x0 x1 x2 v57))))) (
      some (x2, ()))

/-- glazier/glazierref05.By -/
def glazierref05_By (fl : Nat) (x0 : Int) (x1 : List (Int × Int × Int × Int × Int × Int × Int × Int)) : Option (List (Int × Int × Int × Int × Int × Int × Int × Int)) :=
  bnd (F.lt x0 0) fun v2 =>
  bite v2 (
    bgd (F.appOk (α := Unit) 64 [] x1) (
      bnd (F.app [] x1) fun v3 =>
      some v3)) (
    bnd (F.gt x0 4) fun v4 =>
    bite v4 (
      bgd (F.appOk (α := Unit) 64 [] x1) (
        bnd (F.app [] x1) fun v5 =>
        some v5)) (
      obind (glazierref05_By_l1 fl fl x0 x1 [] 0) fun q6 =>
      some q6.1))

/-- glazier/glazierref05.Poly -/
def glazierref05_Poly (fl : Nat) (x0 : List (Int × Int × Int × Int × Int × Int × Int × Int)) : Option (List (Int × Int × Int × Int × Int × Int × Int × Int)) :=
  bgd (F.appOk (α := Unit) 64 [] x0) (
    bnd (F.app [] x0) fun v1 =>
    obind (glazierref05_By fl 0 v1) fun q2 =>
    obind (glazierref05_By fl 1 q2) fun q3 =>
    obind (glazierref05_By fl 2 q3) fun q4 =>
    obind (glazierref05_By fl 3 q4) fun q5 =>
    obind (glazierref05_By fl 4 q5) fun q6 =>
    bnd (F.len q6) fun v7 =>
    bnd (F.lt v7 3) fun v8 =>
    bite v8 (
      some []) (
      some q6))

/-- glazier/glazierref06.Point -/
def glazierref06_Point (fl : Nat) (x0 : Int) (x1 : Int) (x2 : Int × Int × Int × Int × Int × Int × Int × Int) : Option ((Int × Int × Int × Int × Int × Int × Int) × Bool) :=
  bnd (F.lt x0 1) fun v3 =>
  bite v3 (
    some ((0, (0, (0, (0, (0, (0, 0)))))), false)) (
    bnd (F.gt x0 64) fun v4 =>
    bite v4 (
      some ((0, (0, (0, (0, (0, (0, 0)))))), false)) (
      bnd (F.lt x1 1) fun v5 =>
      bite v5 (
        some ((0, (0, (0, (0, (0, (0, 0)))))), false)) (
        bnd (F.gt x1 64) fun v6 =>
        bite v6 (
          some ((0, (0, (0, (0, (0, (0, 0)))))), false)) (
          bnd (F.lt x2.2.2.2.1 1) fun v7 =>
          bite v7 (
            some ((0, (0, (0, (0, (0, (0, 0)))))), false)) (
            bnd (F.mul .i64 x2.1 8) fun v8 =>
            bnd (F.mul .i64 v8 x0) fun v9 =>
            obind (glazierref01_Down fl v9 x2.2.2.2.1) fun q10 =>
            bnd (F.mul .i64 8 x0) fun v11 =>
            bnd (F.add .i64 q10 v11) fun v12 =>
            bnd (F.mul .i64 x2.2.1 8) fun v13 =>
            bnd (F.mul .i64 v13 x1) fun v14 =>
            obind (glazierref01_Down fl v14 x2.2.2.2.1) fun q15 =>
            bnd (F.mul .i64 8 x1) fun v16 =>
            bnd (F.add .i64 q15 v16) fun v17 =>
            bnd (F.mul .i64 x2.2.2.1 32768) fun v18 =>
            obind (glazierref01_Down fl v18 x2.2.2.2.1) fun q19 =>
            bnd (F.add .i64 q19 32768) fun v20 =>
            some ((v12, (v17, (v20, x2.2.2.2.2))), true))))))

def glazierref06_Points_l1 (fl : Nat) : Nat → Int → Int → (List (Int × Int × Int × Int × Int × Int × Int × Int)) → (List (Int × Int × Int × Int × Int × Int × Int)) → Int → Option (((Unit) ⊕ ((List (Int × Int × Int × Int × Int × Int × Int)) × Unit)))
  | 0, _, _, _, _, _ => none
  | n + 1, x0, x1, x2, x3, x4 =>
    bnd (F.len x2) fun v5 =>
    bnd (F.lt x4 v5) fun v6 =>
    bite v6 (
      obind (F.get x2 x4) fun q7 =>
      obind (glazierref06_Point fl x0 x1 q7) fun q8 =>
      bnd (F.not q8.2) fun v9 =>
      bite v9 (
        some (.inl ())) (
        bgd (F.appOk 56 x3 [q8.1]) (
          bnd (F.app x3 [q8.1]) fun v10 =>
          bnd (F.add .i64 x4 1) fun v11 =>
          glazierref06_Points_l1 fl n x0 x1 x2 v10 v11))) (
      some (.inr (x3, ())))

/-- glazier/glazierref06.Points -/
def glazierref06_Points (fl : Nat) (x0 : Int) (x1 : Int) (x2 : List (Int × Int × Int × Int × Int × Int × Int × Int)) : Option ((List (Int × Int × Int × Int × Int × Int × Int)) × Bool) :=
  obind (glazierref06_Points_l1 fl fl x0 x1 x2 [] 0) fun q3 =>
  osum q3 (fun s4 =>
    some ([], false)) (fun r5 =>
    some (r5.1, true))

/-- glazier/glazierref07.Cross -/
def glazierref07_Cross (x0 : Int × Int × Int × Int × Int × Int × Int) (x1 : Int × Int × Int × Int × Int × Int × Int) (x2 : Int) (x3 : Int) : Option (Int) :=
  bnd (F.sub .i64 x1.1 x0.1) fun v4 =>
  bnd (F.sub .i64 x3 x0.2.1) fun v5 =>
  bnd (F.mul .i64 v4 v5) fun v6 =>
  bnd (F.sub .i64 x1.2.1 x0.2.1) fun v7 =>
  bnd (F.sub .i64 x2 x0.1) fun v8 =>
  bnd (F.mul .i64 v7 v8) fun v9 =>
  bnd (F.sub .i64 v6 v9) fun v10 =>
  some v10

/-- glazier/glazierref07.Area -/
def glazierref07_Area (x0 : (Int × Int × Int × Int × Int × Int × Int) × (Int × Int × Int × Int × Int × Int × Int) × Int × Int × Int × Int × Int × Int × Int) : Option (Int) :=
  obind (glazierref07_Cross x0.1 x0.2.1 x0.2.2.1 x0.2.2.2.1) fun q1 =>
  some q1

/-- glazier/glazierref07.Turned -/
def glazierref07_Turned (x0 : (Int × Int × Int × Int × Int × Int × Int) × (Int × Int × Int × Int × Int × Int × Int) × Int × Int × Int × Int × Int × Int × Int) : Option (((Int × Int × Int × Int × Int × Int × Int) × (Int × Int × Int × Int × Int × Int × Int) × Int × Int × Int × Int × Int × Int × Int) × Bool) :=
  obind (glazierref07_Area x0) fun q1 =>
  bnd (F.eq q1 0) fun v2 =>
  bite v2 (
    some (((0, (0, (0, (0, (0, (0, 0)))))), ((0, (0, (0, (0, (0, (0, 0)))))), (0, (0, (0, (0, (0, (0, 0)))))))), false)) (
    bnd (F.lt q1 0) fun v3 =>
    bite v3 (
      some ((x0.1, (x0.2.2, x0.2.1)), true)) (
      some (x0, true)))

def glazierref10_Parts_l1 (fl : Nat) : Nat → (List (Int × Int × Int × Int × Int × Int × Int)) → (List (Int × (Int × Int × Int × Int × Int × Int × Int) × (Int × Int × Int × Int × Int × Int × Int) × Int × Int × Int × Int × Int × Int × Int)) → Int → Option ((List (Int × (Int × Int × Int × Int × Int × Int × Int) × (Int × Int × Int × Int × Int × Int × Int) × Int × Int × Int × Int × Int × Int × Int)) × Unit)
  | 0, _, _, _ => none
  | n + 1, x0, x1, x2 =>
    bnd (F.add .i64 x2 1) fun v3 =>
    bnd (F.len x0) fun v4 =>
    bnd (F.lt v3 v4) fun v5 =>
    bite v5 (
      obind (F.get x0 0) fun q6 =>
      obind (F.get x0 x2) fun q7 =>
      bnd (F.add .i64 x2 1) fun v8 =>
      obind (F.get x0 v8) fun q9 =>
      obind (glazierref07_Turned (q6, (q7, q9))) fun q10 =>
      bite q10.2 (
        bnd (F.sub .i64 x2 1) fun v11 =>
        bgd (F.appOk 176 x1 [(v11, q10.1)]) (
          bnd (F.app x1 [(v11, q10.1)]) fun v12 =>
          bnd (F.add .i64 x2 1) fun v13 =>
          glazierref10_Parts_l1 fl n x0 v12 v13)) (
        bnd (F.add .i64 x2 1) fun v14 =>
        glazierref10_Parts_l1 fl n x0 x1 v14)) (
      some (x1, ()))

/-- glazier/glazierref10.Parts -/
def glazierref10_Parts (fl : Nat) (x0 : Int) (x1 : Int) (x2 : (Int × Int × Int × Int × Int × Int × Int × Int) × (Int × Int × Int × Int × Int × Int × Int × Int) × Int × Int × Int × Int × Int × Int × Int × Int) : Option (List (Int × (Int × Int × Int × Int × Int × Int × Int) × (Int × Int × Int × Int × Int × Int × Int) × Int × Int × Int × Int × Int × Int × Int)) :=
  obind (glazierref05_Poly fl [x2.1, x2.2.1, x2.2.2]) fun q3 =>
  obind (glazierref06_Points fl x0 x1 q3) fun q4 =>
  obind (glazierref10_Parts_l1 fl fl q4.1 [] 1) fun q5 =>
  some q5.1

def glazierref10_Same_l1 (fl : Nat) : Nat → (List (Int × (Int × Int × Int × Int × Int × Int × Int) × (Int × Int × Int × Int × Int × Int × Int) × Int × Int × Int × Int × Int × Int × Int)) → (List (Int × (Int × Int × Int × Int × Int × Int × Int) × (Int × Int × Int × Int × Int × Int × Int) × Int × Int × Int × Int × Int × Int × Int)) → Int → Option (((Unit) ⊕ (Unit)))
  | 0, _, _, _ => none
  | n + 1, x0, x1, x2 =>
    bnd (F.len x0) fun v3 =>
    bnd (F.lt x2 v3) fun v4 =>
    bite v4 (
      obind (F.get x0 x2) fun q5 =>
      obind (F.get x1 x2) fun q6 =>
      bnd (F.not (F.both (F.eq q5.1 q6.1) (F.both (F.both (F.eq q5.2.1.1 q6.2.1.1) (F.both (F.eq q5.2.1.2.1 q6.2.1.2.1) (F.both (F.eq q5.2.1.2.2.1 q6.2.1.2.2.1) (F.both (F.eq q5.2.1.2.2.2.1 q6.2.1.2.2.2.1) (F.both (F.eq q5.2.1.2.2.2.2.1 q6.2.1.2.2.2.2.1) (F.both (F.eq q5.2.1.2.2.2.2.2.1 q6.2.1.2.2.2.2.2.1) (F.eq q5.2.1.2.2.2.2.2.2 q6.2.1.2.2.2.2.2.2))))))) (F.both (F.both (F.eq q5.2.2.1.1 q6.2.2.1.1) (F.both (F.eq q5.2.2.1.2.1 q6.2.2.1.2.1) (F.both (F.eq q5.2.2.1.2.2.1 q6.2.2.1.2.2.1) (F.both (F.eq q5.2.2.1.2.2.2.1 q6.2.2.1.2.2.2.1) (F.both (F.eq q5.2.2.1.2.2.2.2.1 q6.2.2.1.2.2.2.2.1) (F.both (F.eq q5.2.2.1.2.2.2.2.2.1 q6.2.2.1.2.2.2.2.2.1) (F.eq q5.2.2.1.2.2.2.2.2.2 q6.2.2.1.2.2.2.2.2.2))))))) (F.both (F.eq q5.2.2.2.1 q6.2.2.2.1) (F.both (F.eq q5.2.2.2.2.1 q6.2.2.2.2.1) (F.both (F.eq q5.2.2.2.2.2.1 q6.2.2.2.2.2.1) (F.both (F.eq q5.2.2.2.2.2.2.1 q6.2.2.2.2.2.2.1) (F.both (F.eq q5.2.2.2.2.2.2.2.1 q6.2.2.2.2.2.2.2.1) (F.both (F.eq q5.2.2.2.2.2.2.2.2.1 q6.2.2.2.2.2.2.2.2.1) (F.eq q5.2.2.2.2.2.2.2.2.2 q6.2.2.2.2.2.2.2.2.2))))))))))) fun v7 =>
      bite v7 (
        some (.inl ())) (
        bnd (F.add .i64 x2 1) fun v8 =>
        glazierref10_Same_l1 fl n x0 x1 v8)) (
      some (.inr ()))

/-- glazier/glazierref10.Same -/
def glazierref10_Same (fl : Nat) (x0 : List (Int × (Int × Int × Int × Int × Int × Int × Int) × (Int × Int × Int × Int × Int × Int × Int) × Int × Int × Int × Int × Int × Int × Int)) (x1 : List (Int × (Int × Int × Int × Int × Int × Int × Int) × (Int × Int × Int × Int × Int × Int × Int) × Int × Int × Int × Int × Int × Int × Int)) : Option (Bool) :=
  bnd (F.len x0) fun v2 =>
  bnd (F.len x1) fun v3 =>
  bnd (F.ne v2 v3) fun v4 =>
  bite v4 (
    some false) (
    obind (glazierref10_Same_l1 fl fl x0 x1 0) fun q5 =>
    osum q5 (fun s6 =>
      some false) (fun r7 =>
      some true))

/-- glazier/glazierref06.Pixel -/
def glazierref06_Pixel (fl : Nat) (x0 : Int) : Option (Int) :=
  obind (glazierref01_Down fl x0 16) fun q1 =>
  some q1

/-- glazier/glazierref10.Box -/
def glazierref10_Box (fl : Nat) (x0 : Int) (x1 : Int) (x2 : (Int × Int × Int × Int × Int × Int × Int) × (Int × Int × Int × Int × Int × Int × Int) × Int × Int × Int × Int × Int × Int × Int) : Option (Int × Int × Int × Int) :=
  obind (glazierref06_Pixel fl x2.1.1) fun q3 =>
  obind (glazierref06_Pixel fl x2.1.2.1) fun q4 =>
  obind (glazierref06_Pixel fl x2.2.1.1) fun q5 =>
  obind (glazierref06_Pixel fl x2.2.1.2.1) fun q6 =>
  bnd (F.min q3 q5) fun v7 =>
  bnd (F.max q3 q5) fun v8 =>
  bnd (F.min q4 q6) fun v9 =>
  bnd (F.max q4 q6) fun v10 =>
  obind (glazierref06_Pixel fl x2.2.2.1) fun q11 =>
  obind (glazierref06_Pixel fl x2.2.2.2.1) fun q12 =>
  bnd (F.min v7 q11) fun v13 =>
  bnd (F.max v8 q11) fun v14 =>
  bnd (F.min v9 q12) fun v15 =>
  bnd (F.max v10 q12) fun v16 =>
  bnd (F.max v13 0) fun v17 =>
  bnd (F.max v15 0) fun v18 =>
  bnd (F.add .i64 v14 1) fun v19 =>
  bnd (F.min v19 x0) fun v20 =>
  bnd (F.add .i64 v16 1) fun v21 =>
  bnd (F.min v21 x1) fun v22 =>
  some (v17, (v18, (v20, v22)))

def glazierlaw10_SetupAll_l1 (fl : Nat) : Nat → Int → Int → (List (Int × (Int × Int × Int × Int × Int × Int × Int) × (Int × Int × Int × Int × Int × Int × Int) × Int × Int × Int × Int × Int × Int × Int)) → Int → Int → Int → Int → Int → Option (((Unit) ⊕ (Int × Int × Int × Int × Unit)))
  | 0, _, _, _, _, _, _, _, _ => none
  | n + 1, x0, x1, x2, x3, x4, x5, x6, x7 =>
    bnd (F.len x2) fun v8 =>
    bnd (F.lt x3 v8) fun v9 =>
    bite v9 (
      obind (F.get x2 x3) fun q10 =>
      obind (setup_Box fl x0 x1 q10.2) fun q11 =>
      obind (F.get x2 x3) fun q12 =>
      obind (glazierref10_Box fl x0 x1 q12.2) fun q13 =>
      bnd (F.ne q11.1 q13.1) fun v14 =>
      bite v14 (
        some (.inl ())) (
        bnd (F.ne q11.2.1 q13.2.1) fun v15 =>
        bite v15 (
          some (.inl ())) (
          bnd (F.ne q11.2.2.1 q13.2.2.1) fun v16 =>
          bite v16 (
            some (.inl ())) (
            bnd (F.ne q11.2.2.2 q13.2.2.2) fun v17 =>
            bite v17 (
              some (.inl ())) (
              bnd (F.add .i64 x3 1) fun v18 =>
              glazierlaw10_SetupAll_l1 fl n x0 x1 x2 v18 x4 x5 x6 x7))))) (
      some (.inr (x4, (x5, (x6, (x7, ()))))))

def glazierref10_Pixels_l1 (fl : Nat) : Nat → Int → Int → Int → Int → (List (Int × Int)) → Int → Int → Option (Int × Int × Int × Int × (List (Int × Int)) × Int × Unit)
  | 0, _, _, _, _, _, _, _ => none
  | n + 1, x0, x1, x2, x3, x4, x5, x6 =>
    bnd (F.lt x6 x1) fun v7 =>
    bite v7 (
      bnd (F.len x4) fun v8 =>
      bnd (F.lt v8 x3) fun v9 =>
      bite v9 (
        bgd (F.appOk 16 x4 [(x6, x5)]) (
          bnd (F.app x4 [(x6, x5)]) fun v10 =>
          bnd (F.add .i64 x6 1) fun v11 =>
          glazierref10_Pixels_l1 fl n x0 x1 x2 x3 v10 x5 v11)) (
        some (x0, (x1, (x2, (x3, (x4, (x5, ())))))))) (
      some (x0, (x1, (x2, (x3, (x4, (x5, ())))))))

def glazierref10_Pixels_l2 (fl : Nat) : Nat → Int → Int → Int → Int → (List (Int × Int)) → Int → Option ((List (Int × Int)) × Unit)
  | 0, _, _, _, _, _, _ => none
  | n + 1, x0, x1, x2, x3, x4, x5 =>
    bnd (F.lt x5 x2) fun v6 =>
    bite v6 (
      obind (glazierref10_Pixels_l1 fl fl x0 x1 x2 x3 x4 x5 x0) fun q7 =>
      bnd (F.add .i64 q7.2.2.2.2.2.1 1) fun v8 =>
      glazierref10_Pixels_l2 fl n q7.1 q7.2.1 q7.2.2.1 q7.2.2.2.1 q7.2.2.2.2.1 v8) (
      some (x4, ()))

/-- glazier/glazierref10.Pixels -/
def glazierref10_Pixels (fl : Nat) (x0 : Int) (x1 : Int) (x2 : Int) (x3 : Int) (x4 : Int) : Option (List (Int × Int)) :=
  obind (glazierref10_Pixels_l2 fl fl x0 x2 x3 x4 [] x1) fun q5 =>
  some q5.1

def glazierlaw10_SetupAll_l2 (fl : Nat) : Nat → (List (Int × Int)) → (List (Int × Int)) → Int → Option (((Unit) ⊕ (Unit)))
  | 0, _, _, _ => none
  | n + 1, x0, x1, x2 =>
    bnd (F.len x0) fun v3 =>
    bnd (F.lt x2 v3) fun v4 =>
    bite v4 (
      obind (F.get x0 x2) fun q5 =>
      obind (F.get x1 x2) fun q6 =>
      bnd (F.not (F.both (F.eq q5.1 q6.1) (F.eq q5.2 q6.2))) fun v7 =>
      bite v7 (
        some (.inl ())) (
        bnd (F.add .i64 x2 1) fun v8 =>
        glazierlaw10_SetupAll_l2 fl n x0 x1 v8)) (
      some (.inr ()))

/-- glazier/glazierlaw10.SetupAll -/
def glazierlaw10_SetupAll (fl : Nat) (x0 : Int × Int) (x1 : (Int × Int × Int × Int × Int × Int × Int × Int) × (Int × Int × Int × Int × Int × Int × Int × Int) × Int × Int × Int × Int × Int × Int × Int × Int) (x2 : Int × Int × Int × Int) : Option (Bool) :=
  obind (glazierlaw10_shown fl) fun q3 =>
  bnd (F.conv .i64 x0.1) fun v4 =>
  bnd (F.rem v4 64) fun v5 =>
  bnd (F.add .i64 1 v5) fun v6 =>
  bnd (F.conv .i64 x0.2) fun v7 =>
  bnd (F.rem v7 64) fun v8 =>
  bnd (F.add .i64 1 v8) fun v9 =>
  obind (glazierlaw10_fit x1) fun q10 =>
  obind (setup_Parts fl v6 v9 q10) fun q11 =>
  obind (glazierlaw10_fit x1) fun q12 =>
  obind (glazierref10_Parts fl v6 v9 q12) fun q13 =>
  obind (glazierref10_Same fl q11 q13) fun q14 =>
  bnd (F.not q3) fun v15 =>
  bite v15 (
    some false) (
    bnd (F.not q14) fun v16 =>
    bite v16 (
      some false) (
      obind (glazierlaw10_SetupAll_l1 fl fl v6 v9 q11 0 x2.1 x2.2.1 x2.2.2.1 x2.2.2.2) fun q17 =>
      osum q17 (fun s18 =>
        some false) (fun r19 =>
        bnd (F.conv .i64 r19.1) fun v20 =>
        bnd (F.rem v20 71) fun v21 =>
        bnd (F.conv .i64 r19.2.1) fun v22 =>
        bnd (F.rem v22 71) fun v23 =>
        bnd (F.conv .i64 r19.2.2.1) fun v24 =>
        bnd (F.rem v24 71) fun v25 =>
        bnd (F.conv .i64 r19.2.2.2.1) fun v26 =>
        bnd (F.rem v26 71) fun v27 =>
        obind (glazierlaw10_gone fl (v21, (v23, (v25, v27))) 30000) fun q28 =>
        obind (glazierref10_Pixels fl v21 v23 v25 v27 30000) fun q29 =>
        bnd (F.not q28.2) fun v30 =>
        bite v30 (
          some false) (
          bnd (F.len q28.1) fun v31 =>
          bnd (F.len q29) fun v32 =>
          bnd (F.ne v31 v32) fun v33 =>
          bite v33 (
            some false) (
            obind (glazierlaw10_SetupAll_l2 fl fl q28.1 q29 0) fun q34 =>
            osum q34 (fun s35 =>
              some false) (fun r36 =>
              some true))))))


end Go.Proofs.Ytfejdcdomgeogaa.G
