/- Plain functions, printed by program out of the given ones: what each Go function comes to. -/
import Derived.Test.YtepifmbnajpgeaaMchA
set_option linter.unusedVariables false
/-- Bytes that are told. -/
def Go.Proofs.Ytepifmbnajpgeaa.M.F.lit (l : List Nat) : ByteArray := ⟨(l.map UInt8.ofNat).toArray⟩
namespace Go.Proofs.Ytepifmbnajpgeaa.G
open Go Go.Proofs.Ytepifmbnajpgeaa.M

noncomputable def wire_Put_l1 (fl : Nat) : Nat → (List (Int)) → Int → (List (Int)) → Int → Int → Option (List (Int) × Int × List (Int) × Int × Int × Unit)
  | 0, _, _, _, _, _ => none
  | n + 1, x0, x1, x2, x3, x4 =>
    bnd (F.ge x1 128) fun v5 =>
    bite v5 (
      bnd (F.conv .u8 x1) fun v6 =>
      bnd (F.or .u8 v6 128) fun v7 =>
      bgd (F.appOk 1 x0 [v7]) (
        bnd (F.app x0 [v7]) fun v8 =>
        bnd (F.shr .u64 x1 7) fun v9 =>
        wire_Put_l1 fl n v8 v9 x2 x3 x4)) (
      some (x0, (x1, (x2, (x3, (x4, ()))))))

noncomputable def wire_Put_l2 (fl : Nat) : Nat → (List (Int)) → (List (Int)) → Int → Int → Option (List (Int) × Unit)
  | 0, _, _, _, _ => none
  | n + 1, x0, x1, x2, x3 =>
    bnd (F.lt x3 x2) fun v4 =>
    bite v4 (
      obind (F.get x1 x3) fun q5 =>
      bnd (F.conv .u64 q5) fun v6 =>
      bnd (F.shl .u64 v6 1) fun v7 =>
      bnd (F.shr .i64 q5 63) fun v8 =>
      bnd (F.conv .u64 v8) fun v9 =>
      bnd (F.xor .u64 v7 v9) fun v10 =>
      obind (wire_Put_l1 fl fl x0 v10 x1 x2 x3) fun q11 =>
      bnd (F.conv .u8 q11.2.1) fun v12 =>
      bgd (F.appOk 1 q11.1 [v12]) (
        bnd (F.app q11.1 [v12]) fun v13 =>
        bnd (F.add .i64 q11.2.2.2.2.1 1) fun v14 =>
        wire_Put_l2 fl n v13 q11.2.2.1 q11.2.2.2.1 v14)) (
      some (x0, ()))

/-- glazier/wire.Put -/
noncomputable def wire_Put (fl : Nat) (x0 : List (Int)) : Option (List (Int)) :=
  bnd (F.len x0) fun v1 =>
  obind (wire_Put_l2 fl fl [] x0 v1 0) fun q2 =>
  some q2.1

/-- glazier/image.Runs -/
noncomputable def image_Runs (x0 : List (Int × Int × Int × Int)) : Option (List (Int × Int × Int × Int)) :=
  some x0

noncomputable def image_Put_i25_l1 (fl : Nat) : Nat → (List (Int × Int × Int × Int)) → Int → Int → (List (Int × Int × Int × Int)) → Int → Int → (List (Int × Int × Int × Int)) → (List (Int)) → Option ((List (Int × Int × Int × Int)) × Int × Int × (List (Int × Int × Int × Int)) × Int × Int × (List (Int × Int × Int × Int)) × List (Int) × Unit)
  | 0, _, _, _, _, _, _, _, _ => none
  | n + 1, x0, x1, x2, x3, x4, x5, x6, x7 =>
    bnd (F.len x0) fun v8 =>
    bnd (F.lt x2 v8) fun v9 =>
    bite v9 (
      obind (F.get x0 x2) fun q10 =>
      obind (F.get x0 x1) fun q11 =>
      bnd (F.both (F.eq q10.1 q11.1) (F.both (F.eq q10.2.1 q11.2.1) (F.both (F.eq q10.2.2.1 q11.2.2.1) (F.eq q10.2.2.2 q11.2.2.2)))) fun v12 =>
      bite v12 (
        bnd (F.add .i64 x2 1) fun v13 =>
        image_Put_i25_l1 fl n x0 x1 v13 x3 x4 x5 x6 x7) (
        some (x0, (x1, (x2, (x3, (x4, (x5, (x6, (x7, ())))))))))) (
      some (x0, (x1, (x2, (x3, (x4, (x5, (x6, (x7, ())))))))))

noncomputable def image_Put_i25_l2 (fl : Nat) : Nat → (List (Int × Int × Int × Int)) → Int → Int → (List (Int × Int × Int × Int)) → Int → Int → (List (Int × Int × Int × Int)) → (List (Int)) → Option ((List (Int × Int × Int × Int)) × Int × Int × (List (Int × Int × Int × Int)) × List (Int) × Unit)
  | 0, _, _, _, _, _, _, _, _ => none
  | n + 1, x0, x1, x2, x3, x4, x5, x6, x7 =>
    bnd (F.len x0) fun v8 =>
    bnd (F.lt x1 v8) fun v9 =>
    bite v9 (
      obind (image_Put_i25_l1 fl fl x0 x1 x2 x3 x4 x5 x6 x7) fun q10 =>
      bnd (F.sub .i64 q10.2.2.1 q10.2.1) fun v11 =>
      obind (F.get q10.1 q10.2.1) fun q12 =>
      bnd (F.conv .i64 q12.1) fun v13 =>
      bnd (F.conv .i64 q12.2.1) fun v14 =>
      bnd (F.conv .i64 q12.2.2.1) fun v15 =>
      bnd (F.conv .i64 q12.2.2.2) fun v16 =>
      obind (wire_Put fl [v11, v13, v14, v15, v16]) fun q17 =>
      bgd (F.appOk 1 q10.2.2.2.2.2.2.2.1 q17) (
        bnd (F.app q10.2.2.2.2.2.2.2.1 q17) fun v18 =>
        image_Put_i25_l2 fl n q10.1 q10.2.2.1 q10.2.2.1 q10.2.2.2.1 q10.2.2.2.2.1 q10.2.2.2.2.2.1 q10.2.2.2.2.2.2.1 v18)) (
      some (x3, (x4, (x5, (x6, (x7, ()))))))

/-- glazier/image.Put -/
noncomputable def image_Put (fl : Nat) (x0 : Int × Int × List (Int × Int × Int × Int)) : Option (List (Int) × Int) :=
  bnd (F.min x0.1 x0.2.1) fun v1 =>
  bnd (F.lt v1 1) fun v2 =>
  bite v2 (
    some ([], 1)) (
    bnd (F.max x0.1 x0.2.1) fun v3 =>
    bnd (F.gt v3 64) fun v4 =>
    bite v4 (
      some ([], 1)) (
      bnd (F.len x0.2.2) fun v5 =>
      bnd (F.mul .i64 x0.1 x0.2.1) fun v6 =>
      bnd (F.ne v5 v6) fun v7 =>
      bite v7 (
        some ([], 1)) (
        obind (wire_Put fl [x0.1, x0.2.1]) fun q8 =>
        obind (image_Runs x0.2.2) fun q9 =>
        obind (image_Put_i25_l2 fl fl q9 0 0 q9 x0.1 x0.2.1 x0.2.2 q8) fun q10 =>
        some (q10.2.2.2.2.1, 0))))

/-- glazier/glazierlaw24.shown -/
noncomputable def glazierlaw24_shown (fl : Nat)  : Option (Bool) :=
  obind (image_Put fl (2, (1, [(0, (0, (0, 0))), (0, (0, (0, 0)))]))) fun q0 =>
  bnd (F.eq q0.2 0) fun v1 =>
  bite v1 (
    bnd (F.str q0.1) fun v2 =>
    bnd (F.seq v2 (F.lit [4, 2, 4, 0, 0, 0, 0])) fun v3 =>
    bite v3 (
      obind (image_Runs []) fun q4 =>
      some true) (
      some false)) (
    some false)

noncomputable def glazierref24_Runs_l1 (fl : Nat) : Nat → (List (Int × Int × Int × Int)) → (List (Int)) → (List (Int × Int × Int × Int)) → Int → Option (List (Int) × (List (Int × Int × Int × Int)) × Unit)
  | 0, _, _, _, _ => none
  | n + 1, x0, x1, x2, x3 =>
    bnd (F.len x0) fun v4 =>
    bnd (F.lt x3 v4) fun v5 =>
    bite v5 (
      bnd (F.len x2) fun v6 =>
      bnd (F.gt v6 0) fun v7 =>
      bite v7 (
        bnd (F.sub .i64 v6 1) fun v8 =>
        obind (F.get x2 v8) fun q9 =>
        obind (F.get x0 x3) fun q10 =>
        bnd (F.both (F.eq q9.1 q10.1) (F.both (F.eq q9.2.1 q10.2.1) (F.both (F.eq q9.2.2.1 q10.2.2.1) (F.eq q9.2.2.2 q10.2.2.2)))) fun v11 =>
        bite v11 (
          bnd (F.sub .i64 v6 1) fun v12 =>
          bnd (F.sub .i64 v6 1) fun v13 =>
          obind (F.get x1 v13) fun q14 =>
          bnd (F.add .i64 q14 1) fun v15 =>
          bgd (F.has x1 v12) (
            obind (F.get x1 v12) fun q16 =>
            bnd (F.put x1 v12 v15) fun v17 =>
            bnd (F.add .i64 x3 1) fun v18 =>
            glazierref24_Runs_l1 fl n x0 v17 x2 v18)) (
          bgd (F.appOk 8 x1 [1]) (
            bnd (F.app x1 [1]) fun v19 =>
            obind (F.get x0 x3) fun q20 =>
            bgd (F.appOk 4 x2 [q20]) (
              bnd (F.app x2 [q20]) fun v21 =>
              bnd (F.add .i64 x3 1) fun v22 =>
              glazierref24_Runs_l1 fl n x0 v19 v21 v22)))) (
        bgd (F.appOk 8 x1 [1]) (
          bnd (F.app x1 [1]) fun v23 =>
          obind (F.get x0 x3) fun q24 =>
          bgd (F.appOk 4 x2 [q24]) (
            bnd (F.app x2 [q24]) fun v25 =>
            bnd (F.add .i64 x3 1) fun v26 =>
            glazierref24_Runs_l1 fl n x0 v23 v25 v26)))) (
      some (x1, (x2, ())))

/-- glazier/glazierref24.Runs -/
noncomputable def glazierref24_Runs (fl : Nat) (x0 : List (Int × Int × Int × Int)) : Option (List (Int) × List (Int × Int × Int × Int)) :=
  obind (glazierref24_Runs_l1 fl fl x0 [] [] 0) fun q1 =>
  some (q1.1, q1.2.1)

noncomputable def glazierref24_Put_l1 (fl : Nat) : Nat → (List (Int)) → (List (Int)) → (List (Int × Int × Int × Int)) → Int → Option (List (Int) × Unit)
  | 0, _, _, _, _ => none
  | n + 1, x0, x1, x2, x3 =>
    bnd (F.len x2) fun v4 =>
    bnd (F.lt x3 v4) fun v5 =>
    bite v5 (
      obind (F.get x1 x3) fun q6 =>
      obind (F.get x2 x3) fun q7 =>
      bnd (F.conv .i64 q7.1) fun v8 =>
      obind (F.get x2 x3) fun q9 =>
      bnd (F.conv .i64 q9.2.1) fun v10 =>
      obind (F.get x2 x3) fun q11 =>
      bnd (F.conv .i64 q11.2.2.1) fun v12 =>
      obind (F.get x2 x3) fun q13 =>
      bnd (F.conv .i64 q13.2.2.2) fun v14 =>
      bgd (F.appOk 8 x0 [q6, v8, v10, v12, v14]) (
        bnd (F.app x0 [q6, v8, v10, v12, v14]) fun v15 =>
        bnd (F.add .i64 x3 1) fun v16 =>
        glazierref24_Put_l1 fl n v15 x1 x2 v16)) (
      some (x0, ()))

noncomputable def glazierref03_one_l1 (fl : Nat) : Nat → Int → (List (Int)) → Option (Int × List (Int) × Unit)
  | 0, _, _ => none
  | n + 1, x0, x1 =>
    bnd (F.ge x0 128) fun v2 =>
    bite v2 (
      bnd (F.rem x0 128) fun v3 =>
      bnd (F.conv .u8 v3) fun v4 =>
      bnd (F.add .u8 v4 128) fun v5 =>
      bgd (F.appOk 1 x1 [v5]) (
        bnd (F.app x1 [v5]) fun v6 =>
        bnd (F.quo .u64 x0 128) fun v7 =>
        glazierref03_one_l1 fl n v7 v6)) (
      some (x0, (x1, ())))

/-- glazier/glazierref03.one -/
noncomputable def glazierref03_one (fl : Nat) (x0 : Int) : Option (List (Int)) :=
  bnd (F.conv .u64 x0) fun v1 =>
  bnd (F.mul .u64 v1 2) fun v2 =>
  bnd (F.lt x0 0) fun v3 =>
  bite v3 (
    bnd (F.add .i64 x0 1) fun v4 =>
    bnd (F.neg .i64 v4) fun v5 =>
    bnd (F.conv .u64 v5) fun v6 =>
    bnd (F.mul .u64 v6 2) fun v7 =>
    bnd (F.add .u64 v7 1) fun v8 =>
    obind (glazierref03_one_l1 fl fl v8 []) fun q9 =>
    bnd (F.conv .u8 q9.1) fun v10 =>
    bgd (F.appOk 1 q9.2.1 [v10]) (
      bnd (F.app q9.2.1 [v10]) fun v11 =>
      some v11)) (
    obind (glazierref03_one_l1 fl fl v2 []) fun q12 =>
    bnd (F.conv .u8 q12.1) fun v13 =>
    bgd (F.appOk 1 q12.2.1 [v13]) (
      bnd (F.app q12.2.1 [v13]) fun v14 =>
      some v14))

noncomputable def glazierref03_Put_l1 (fl : Nat) : Nat → (List (Int)) → (List (Int)) → Int → Option (List (Int) × Unit)
  | 0, _, _, _ => none
  | n + 1, x0, x1, x2 =>
    bnd (F.len x0) fun v3 =>
    bnd (F.lt x2 v3) fun v4 =>
    bite v4 (
      obind (F.get x0 x2) fun q5 =>
      obind (glazierref03_one fl q5) fun q6 =>
      bgd (F.appOk 1 x1 q6) (
        bnd (F.app x1 q6) fun v7 =>
        bnd (F.add .i64 x2 1) fun v8 =>
        glazierref03_Put_l1 fl n x0 v7 v8)) (
      some (x1, ()))

/-- glazier/glazierref03.Put -/
noncomputable def glazierref03_Put (fl : Nat) (x0 : List (Int)) : Option (List (Int)) :=
  obind (glazierref03_Put_l1 fl fl x0 [] 0) fun q1 =>
  some q1.1

/-- glazier/glazierref24.Put -/
noncomputable def glazierref24_Put (fl : Nat) (x0 : Int × Int × List (Int × Int × Int × Int)) : Option (List (Int) × Int) :=
  bnd (F.lt x0.1 1) fun v1 =>
  bite v1 (
    some ([], 1)) (
    bnd (F.gt x0.1 64) fun v2 =>
    bite v2 (
      some ([], 1)) (
      bnd (F.lt x0.2.1 1) fun v3 =>
      bite v3 (
        some ([], 1)) (
        bnd (F.gt x0.2.1 64) fun v4 =>
        bite v4 (
          some ([], 1)) (
          bnd (F.len x0.2.2) fun v5 =>
          bnd (F.mul .i64 x0.1 x0.2.1) fun v6 =>
          bnd (F.ne v5 v6) fun v7 =>
          bite v7 (
            some ([], 1)) (
            obind (glazierref24_Runs fl x0.2.2) fun q8 =>
            obind (glazierref24_Put_l1 fl fl [x0.1, x0.2.1] q8.1 q8.2 0) fun q9 =>
            obind (glazierref03_Put fl q9.1) fun q10 =>
            some (q10, 0))))))

/-- slices.Clone[[]byte,byte] -/
noncomputable def slices_Clone (x0 : List (Int)) : Option (List (Int)) :=
  nilE (F.len x0) (
    some []) (
    bgd (F.appOk (α := Unit) 1 [] x0) (
      bnd (F.app [] x0) fun v1 =>
      some v1))

/-- glazier/wire.All -/
noncomputable def wire_All (x0 : List (Int)) : Option (List (Int)) :=
  obind (slices_Clone x0) fun q1 =>
  some q1

/-- math/bits.Len64 -/
noncomputable def bits_Len64 (x0 : Int) : Option (Int) :=
  bnd (F.ge x0 4294967296) fun v1 =>
  bite v1 (
    bnd (F.shr .u64 x0 32) fun v2 =>
    bnd (F.ge v2 65536) fun v3 =>
    bite v3 (
      bnd (F.shr .u64 v2 16) fun v4 =>
      bnd (F.ge v4 256) fun v5 =>
      bite v5 (
        bnd (F.shr .u64 v4 8) fun v6 =>
        bnd (F.conv .u8 v6) fun v7 =>
        obind (F.get (F.bytes (F.lit [0, 1, 2, 2, 3, 3, 3, 3, 4, 4, 4, 4, 4, 4, 4, 4, 5, 5, 5, 5, 5, 5, 5, 5, 5, 5, 5, 5, 5, 5, 5, 5, 6, 6, 6, 6, 6, 6, 6, 6, 6, 6, 6, 6, 6, 6, 6, 6, 6, 6, 6, 6, 6, 6, 6, 6, 6, 6, 6, 6, 6, 6, 6, 6, 7, 7, 7, 7, 7, 7, 7, 7, 7, 7, 7, 7, 7, 7, 7, 7, 7, 7, 7, 7, 7, 7, 7, 7, 7, 7, 7, 7, 7, 7, 7, 7, 7, 7, 7, 7, 7, 7, 7, 7, 7, 7, 7, 7, 7, 7, 7, 7, 7, 7, 7, 7, 7, 7, 7, 7, 7, 7, 7, 7, 7, 7, 7, 7, 8, 8, 8, 8, 8, 8, 8, 8, 8, 8, 8, 8, 8, 8, 8, 8, 8, 8, 8, 8, 8, 8, 8, 8, 8, 8, 8, 8, 8, 8, 8, 8, 8, 8, 8, 8, 8, 8, 8, 8, 8, 8, 8, 8, 8, 8, 8, 8, 8, 8, 8, 8, 8, 8, 8, 8, 8, 8, 8, 8, 8, 8, 8, 8, 8, 8, 8, 8, 8, 8, 8, 8, 8, 8, 8, 8, 8, 8, 8, 8, 8, 8, 8, 8, 8, 8, 8, 8, 8, 8, 8, 8, 8, 8, 8, 8, 8, 8, 8, 8, 8, 8, 8, 8, 8, 8, 8, 8, 8, 8, 8, 8, 8, 8, 8, 8, 8, 8, 8, 8, 8, 8, 8, 8, 8, 8, 8, 8])) v7) fun q8 =>
        bnd (F.conv .i64 q8) fun v9 =>
        bnd (F.add .i64 56 v9) fun v10 =>
        some v10) (
        bnd (F.conv .u8 v4) fun v11 =>
        obind (F.get (F.bytes (F.lit [0, 1, 2, 2, 3, 3, 3, 3, 4, 4, 4, 4, 4, 4, 4, 4, 5, 5, 5, 5, 5, 5, 5, 5, 5, 5, 5, 5, 5, 5, 5, 5, 6, 6, 6, 6, 6, 6, 6, 6, 6, 6, 6, 6, 6, 6, 6, 6, 6, 6, 6, 6, 6, 6, 6, 6, 6, 6, 6, 6, 6, 6, 6, 6, 7, 7, 7, 7, 7, 7, 7, 7, 7, 7, 7, 7, 7, 7, 7, 7, 7, 7, 7, 7, 7, 7, 7, 7, 7, 7, 7, 7, 7, 7, 7, 7, 7, 7, 7, 7, 7, 7, 7, 7, 7, 7, 7, 7, 7, 7, 7, 7, 7, 7, 7, 7, 7, 7, 7, 7, 7, 7, 7, 7, 7, 7, 7, 7, 8, 8, 8, 8, 8, 8, 8, 8, 8, 8, 8, 8, 8, 8, 8, 8, 8, 8, 8, 8, 8, 8, 8, 8, 8, 8, 8, 8, 8, 8, 8, 8, 8, 8, 8, 8, 8, 8, 8, 8, 8, 8, 8, 8, 8, 8, 8, 8, 8, 8, 8, 8, 8, 8, 8, 8, 8, 8, 8, 8, 8, 8, 8, 8, 8, 8, 8, 8, 8, 8, 8, 8, 8, 8, 8, 8, 8, 8, 8, 8, 8, 8, 8, 8, 8, 8, 8, 8, 8, 8, 8, 8, 8, 8, 8, 8, 8, 8, 8, 8, 8, 8, 8, 8, 8, 8, 8, 8, 8, 8, 8, 8, 8, 8, 8, 8, 8, 8, 8, 8, 8, 8, 8, 8, 8, 8, 8, 8])) v11) fun q12 =>
        bnd (F.conv .i64 q12) fun v13 =>
        bnd (F.add .i64 48 v13) fun v14 =>
        some v14)) (
      bnd (F.ge v2 256) fun v15 =>
      bite v15 (
        bnd (F.shr .u64 v2 8) fun v16 =>
        bnd (F.conv .u8 v16) fun v17 =>
        obind (F.get (F.bytes (F.lit [0, 1, 2, 2, 3, 3, 3, 3, 4, 4, 4, 4, 4, 4, 4, 4, 5, 5, 5, 5, 5, 5, 5, 5, 5, 5, 5, 5, 5, 5, 5, 5, 6, 6, 6, 6, 6, 6, 6, 6, 6, 6, 6, 6, 6, 6, 6, 6, 6, 6, 6, 6, 6, 6, 6, 6, 6, 6, 6, 6, 6, 6, 6, 6, 7, 7, 7, 7, 7, 7, 7, 7, 7, 7, 7, 7, 7, 7, 7, 7, 7, 7, 7, 7, 7, 7, 7, 7, 7, 7, 7, 7, 7, 7, 7, 7, 7, 7, 7, 7, 7, 7, 7, 7, 7, 7, 7, 7, 7, 7, 7, 7, 7, 7, 7, 7, 7, 7, 7, 7, 7, 7, 7, 7, 7, 7, 7, 7, 8, 8, 8, 8, 8, 8, 8, 8, 8, 8, 8, 8, 8, 8, 8, 8, 8, 8, 8, 8, 8, 8, 8, 8, 8, 8, 8, 8, 8, 8, 8, 8, 8, 8, 8, 8, 8, 8, 8, 8, 8, 8, 8, 8, 8, 8, 8, 8, 8, 8, 8, 8, 8, 8, 8, 8, 8, 8, 8, 8, 8, 8, 8, 8, 8, 8, 8, 8, 8, 8, 8, 8, 8, 8, 8, 8, 8, 8, 8, 8, 8, 8, 8, 8, 8, 8, 8, 8, 8, 8, 8, 8, 8, 8, 8, 8, 8, 8, 8, 8, 8, 8, 8, 8, 8, 8, 8, 8, 8, 8, 8, 8, 8, 8, 8, 8, 8, 8, 8, 8, 8, 8, 8, 8, 8, 8, 8, 8])) v17) fun q18 =>
        bnd (F.conv .i64 q18) fun v19 =>
        bnd (F.add .i64 40 v19) fun v20 =>
        some v20) (
        bnd (F.conv .u8 v2) fun v21 =>
        obind (F.get (F.bytes (F.lit [0, 1, 2, 2, 3, 3, 3, 3, 4, 4, 4, 4, 4, 4, 4, 4, 5, 5, 5, 5, 5, 5, 5, 5, 5, 5, 5, 5, 5, 5, 5, 5, 6, 6, 6, 6, 6, 6, 6, 6, 6, 6, 6, 6, 6, 6, 6, 6, 6, 6, 6, 6, 6, 6, 6, 6, 6, 6, 6, 6, 6, 6, 6, 6, 7, 7, 7, 7, 7, 7, 7, 7, 7, 7, 7, 7, 7, 7, 7, 7, 7, 7, 7, 7, 7, 7, 7, 7, 7, 7, 7, 7, 7, 7, 7, 7, 7, 7, 7, 7, 7, 7, 7, 7, 7, 7, 7, 7, 7, 7, 7, 7, 7, 7, 7, 7, 7, 7, 7, 7, 7, 7, 7, 7, 7, 7, 7, 7, 8, 8, 8, 8, 8, 8, 8, 8, 8, 8, 8, 8, 8, 8, 8, 8, 8, 8, 8, 8, 8, 8, 8, 8, 8, 8, 8, 8, 8, 8, 8, 8, 8, 8, 8, 8, 8, 8, 8, 8, 8, 8, 8, 8, 8, 8, 8, 8, 8, 8, 8, 8, 8, 8, 8, 8, 8, 8, 8, 8, 8, 8, 8, 8, 8, 8, 8, 8, 8, 8, 8, 8, 8, 8, 8, 8, 8, 8, 8, 8, 8, 8, 8, 8, 8, 8, 8, 8, 8, 8, 8, 8, 8, 8, 8, 8, 8, 8, 8, 8, 8, 8, 8, 8, 8, 8, 8, 8, 8, 8, 8, 8, 8, 8, 8, 8, 8, 8, 8, 8, 8, 8, 8, 8, 8, 8, 8, 8])) v21) fun q22 =>
        bnd (F.conv .i64 q22) fun v23 =>
        bnd (F.add .i64 32 v23) fun v24 =>
        some v24))) (
    bnd (F.ge x0 65536) fun v25 =>
    bite v25 (
      bnd (F.shr .u64 x0 16) fun v26 =>
      bnd (F.ge v26 256) fun v27 =>
      bite v27 (
        bnd (F.shr .u64 v26 8) fun v28 =>
        bnd (F.conv .u8 v28) fun v29 =>
        obind (F.get (F.bytes (F.lit [0, 1, 2, 2, 3, 3, 3, 3, 4, 4, 4, 4, 4, 4, 4, 4, 5, 5, 5, 5, 5, 5, 5, 5, 5, 5, 5, 5, 5, 5, 5, 5, 6, 6, 6, 6, 6, 6, 6, 6, 6, 6, 6, 6, 6, 6, 6, 6, 6, 6, 6, 6, 6, 6, 6, 6, 6, 6, 6, 6, 6, 6, 6, 6, 7, 7, 7, 7, 7, 7, 7, 7, 7, 7, 7, 7, 7, 7, 7, 7, 7, 7, 7, 7, 7, 7, 7, 7, 7, 7, 7, 7, 7, 7, 7, 7, 7, 7, 7, 7, 7, 7, 7, 7, 7, 7, 7, 7, 7, 7, 7, 7, 7, 7, 7, 7, 7, 7, 7, 7, 7, 7, 7, 7, 7, 7, 7, 7, 8, 8, 8, 8, 8, 8, 8, 8, 8, 8, 8, 8, 8, 8, 8, 8, 8, 8, 8, 8, 8, 8, 8, 8, 8, 8, 8, 8, 8, 8, 8, 8, 8, 8, 8, 8, 8, 8, 8, 8, 8, 8, 8, 8, 8, 8, 8, 8, 8, 8, 8, 8, 8, 8, 8, 8, 8, 8, 8, 8, 8, 8, 8, 8, 8, 8, 8, 8, 8, 8, 8, 8, 8, 8, 8, 8, 8, 8, 8, 8, 8, 8, 8, 8, 8, 8, 8, 8, 8, 8, 8, 8, 8, 8, 8, 8, 8, 8, 8, 8, 8, 8, 8, 8, 8, 8, 8, 8, 8, 8, 8, 8, 8, 8, 8, 8, 8, 8, 8, 8, 8, 8, 8, 8, 8, 8, 8, 8])) v29) fun q30 =>
        bnd (F.conv .i64 q30) fun v31 =>
        bnd (F.add .i64 24 v31) fun v32 =>
        some v32) (
        bnd (F.conv .u8 v26) fun v33 =>
        obind (F.get (F.bytes (F.lit [0, 1, 2, 2, 3, 3, 3, 3, 4, 4, 4, 4, 4, 4, 4, 4, 5, 5, 5, 5, 5, 5, 5, 5, 5, 5, 5, 5, 5, 5, 5, 5, 6, 6, 6, 6, 6, 6, 6, 6, 6, 6, 6, 6, 6, 6, 6, 6, 6, 6, 6, 6, 6, 6, 6, 6, 6, 6, 6, 6, 6, 6, 6, 6, 7, 7, 7, 7, 7, 7, 7, 7, 7, 7, 7, 7, 7, 7, 7, 7, 7, 7, 7, 7, 7, 7, 7, 7, 7, 7, 7, 7, 7, 7, 7, 7, 7, 7, 7, 7, 7, 7, 7, 7, 7, 7, 7, 7, 7, 7, 7, 7, 7, 7, 7, 7, 7, 7, 7, 7, 7, 7, 7, 7, 7, 7, 7, 7, 8, 8, 8, 8, 8, 8, 8, 8, 8, 8, 8, 8, 8, 8, 8, 8, 8, 8, 8, 8, 8, 8, 8, 8, 8, 8, 8, 8, 8, 8, 8, 8, 8, 8, 8, 8, 8, 8, 8, 8, 8, 8, 8, 8, 8, 8, 8, 8, 8, 8, 8, 8, 8, 8, 8, 8, 8, 8, 8, 8, 8, 8, 8, 8, 8, 8, 8, 8, 8, 8, 8, 8, 8, 8, 8, 8, 8, 8, 8, 8, 8, 8, 8, 8, 8, 8, 8, 8, 8, 8, 8, 8, 8, 8, 8, 8, 8, 8, 8, 8, 8, 8, 8, 8, 8, 8, 8, 8, 8, 8, 8, 8, 8, 8, 8, 8, 8, 8, 8, 8, 8, 8, 8, 8, 8, 8, 8, 8])) v33) fun q34 =>
        bnd (F.conv .i64 q34) fun v35 =>
        bnd (F.add .i64 16 v35) fun v36 =>
        some v36)) (
      bnd (F.ge x0 256) fun v37 =>
      bite v37 (
        bnd (F.shr .u64 x0 8) fun v38 =>
        bnd (F.conv .u8 v38) fun v39 =>
        obind (F.get (F.bytes (F.lit [0, 1, 2, 2, 3, 3, 3, 3, 4, 4, 4, 4, 4, 4, 4, 4, 5, 5, 5, 5, 5, 5, 5, 5, 5, 5, 5, 5, 5, 5, 5, 5, 6, 6, 6, 6, 6, 6, 6, 6, 6, 6, 6, 6, 6, 6, 6, 6, 6, 6, 6, 6, 6, 6, 6, 6, 6, 6, 6, 6, 6, 6, 6, 6, 7, 7, 7, 7, 7, 7, 7, 7, 7, 7, 7, 7, 7, 7, 7, 7, 7, 7, 7, 7, 7, 7, 7, 7, 7, 7, 7, 7, 7, 7, 7, 7, 7, 7, 7, 7, 7, 7, 7, 7, 7, 7, 7, 7, 7, 7, 7, 7, 7, 7, 7, 7, 7, 7, 7, 7, 7, 7, 7, 7, 7, 7, 7, 7, 8, 8, 8, 8, 8, 8, 8, 8, 8, 8, 8, 8, 8, 8, 8, 8, 8, 8, 8, 8, 8, 8, 8, 8, 8, 8, 8, 8, 8, 8, 8, 8, 8, 8, 8, 8, 8, 8, 8, 8, 8, 8, 8, 8, 8, 8, 8, 8, 8, 8, 8, 8, 8, 8, 8, 8, 8, 8, 8, 8, 8, 8, 8, 8, 8, 8, 8, 8, 8, 8, 8, 8, 8, 8, 8, 8, 8, 8, 8, 8, 8, 8, 8, 8, 8, 8, 8, 8, 8, 8, 8, 8, 8, 8, 8, 8, 8, 8, 8, 8, 8, 8, 8, 8, 8, 8, 8, 8, 8, 8, 8, 8, 8, 8, 8, 8, 8, 8, 8, 8, 8, 8, 8, 8, 8, 8, 8, 8])) v39) fun q40 =>
        bnd (F.conv .i64 q40) fun v41 =>
        bnd (F.add .i64 8 v41) fun v42 =>
        some v42) (
        bnd (F.conv .u8 x0) fun v43 =>
        obind (F.get (F.bytes (F.lit [0, 1, 2, 2, 3, 3, 3, 3, 4, 4, 4, 4, 4, 4, 4, 4, 5, 5, 5, 5, 5, 5, 5, 5, 5, 5, 5, 5, 5, 5, 5, 5, 6, 6, 6, 6, 6, 6, 6, 6, 6, 6, 6, 6, 6, 6, 6, 6, 6, 6, 6, 6, 6, 6, 6, 6, 6, 6, 6, 6, 6, 6, 6, 6, 7, 7, 7, 7, 7, 7, 7, 7, 7, 7, 7, 7, 7, 7, 7, 7, 7, 7, 7, 7, 7, 7, 7, 7, 7, 7, 7, 7, 7, 7, 7, 7, 7, 7, 7, 7, 7, 7, 7, 7, 7, 7, 7, 7, 7, 7, 7, 7, 7, 7, 7, 7, 7, 7, 7, 7, 7, 7, 7, 7, 7, 7, 7, 7, 8, 8, 8, 8, 8, 8, 8, 8, 8, 8, 8, 8, 8, 8, 8, 8, 8, 8, 8, 8, 8, 8, 8, 8, 8, 8, 8, 8, 8, 8, 8, 8, 8, 8, 8, 8, 8, 8, 8, 8, 8, 8, 8, 8, 8, 8, 8, 8, 8, 8, 8, 8, 8, 8, 8, 8, 8, 8, 8, 8, 8, 8, 8, 8, 8, 8, 8, 8, 8, 8, 8, 8, 8, 8, 8, 8, 8, 8, 8, 8, 8, 8, 8, 8, 8, 8, 8, 8, 8, 8, 8, 8, 8, 8, 8, 8, 8, 8, 8, 8, 8, 8, 8, 8, 8, 8, 8, 8, 8, 8, 8, 8, 8, 8, 8, 8, 8, 8, 8, 8, 8, 8, 8, 8, 8, 8, 8, 8])) v43) fun q44 =>
        bnd (F.conv .i64 q44) fun v45 =>
        bnd (F.add .i64 0 v45) fun v46 =>
        some v46)))

noncomputable def wire_read_l1 (fl : Nat) : Nat → Int → Int → (List (Int)) → Int → Int → Option (((Int × Int × Unit) ⊕ (Unit)))
  | 0, _, _, _, _, _ => none
  | n + 1, x0, x1, x2, x3, x4 =>
    bnd (F.lt x4 x3) fun v5 =>
    bite v5 (
      obind (F.get x2 x4) fun q6 =>
      bnd (F.andNot .u8 q6 128) fun v7 =>
      bnd (F.conv .u64 v7) fun v8 =>
      obind (bits_Len64 v8) fun q9 =>
      bnd (F.add .i64 x1 q9) fun v10 =>
      bnd (F.gt v10 64) fun v11 =>
      bite v11 (
        some (.inl (0, (0, ())))) (
        bnd (F.eq q6 0) fun v12 =>
        bite v12 (
          bnd (F.gt x4 0) fun v13 =>
          bite v13 (
            some (.inl (0, (0, ())))) (
            bgd (F.nonneg x1) (
              bnd (F.shl .u64 v8 x1) fun v14 =>
              bnd (F.or .u64 x0 v14) fun v15 =>
              bnd (F.lt q6 128) fun v16 =>
              bite v16 (
                bnd (F.shr .u64 v15 1) fun v17 =>
                bnd (F.conv .i64 v17) fun v18 =>
                bnd (F.and .u64 v15 1) fun v19 =>
                bnd (F.conv .i64 v19) fun v20 =>
                bnd (F.neg .i64 v20) fun v21 =>
                bnd (F.xor .i64 v18 v21) fun v22 =>
                bnd (F.add .i64 x4 1) fun v23 =>
                some (.inl (v22, (v23, ())))) (
                bnd (F.add .i64 x1 7) fun v24 =>
                bnd (F.add .i64 x4 1) fun v25 =>
                wire_read_l1 fl n v15 v24 x2 x3 v25)))) (
          bgd (F.nonneg x1) (
            bnd (F.shl .u64 v8 x1) fun v26 =>
            bnd (F.or .u64 x0 v26) fun v27 =>
            bnd (F.lt q6 128) fun v28 =>
            bite v28 (
              bnd (F.shr .u64 v27 1) fun v29 =>
              bnd (F.conv .i64 v29) fun v30 =>
              bnd (F.and .u64 v27 1) fun v31 =>
              bnd (F.conv .i64 v31) fun v32 =>
              bnd (F.neg .i64 v32) fun v33 =>
              bnd (F.xor .i64 v30 v33) fun v34 =>
              bnd (F.add .i64 x4 1) fun v35 =>
              some (.inl (v34, (v35, ())))) (
              bnd (F.add .i64 x1 7) fun v36 =>
              bnd (F.add .i64 x4 1) fun v37 =>
              wire_read_l1 fl n v27 v36 x2 x3 v37))))) (
      some (.inr ()))

/-- glazier/wire.read -/
noncomputable def wire_read (fl : Nat) (x0 : List (Int)) : Option (Int × Int) :=
  bnd (F.len x0) fun v1 =>
  obind (wire_read_l1 fl fl 0 0 x0 v1 0) fun q2 =>
  osum q2 (fun s3 =>
    some (s3.1, s3.2.1)) (fun r4 =>
    some (0, 0))

noncomputable def image_numbers_i29_l1 (fl : Nat) : Nat → (List (Int)) → Int → (List (Int)) → (List (Int)) → Option (((List (Int) × Int × List (Int) × Unit) ⊕ (List (Int) × List (Int) × Unit)))
  | 0, _, _, _, _ => none
  | n + 1, x0, x1, x2, x3 =>
    bnd (F.len x0) fun v4 =>
    bnd (F.lt x1 v4) fun v5 =>
    bite v5 (
      bgd (F.cutOk x0 x1 (F.len x0)) (
        bnd (F.cut x0 x1 (F.len x0)) fun v6 =>
        obind (wire_read fl v6) fun q7 =>
        bnd (F.gt q7.2 0) fun v8 =>
        bnd (F.not v8) fun v9 =>
        bite v9 (
          some (.inl (x2, (2, (x3, ()))))) (
          bgd (F.appOk 8 x3 [q7.1]) (
            bnd (F.app x3 [q7.1]) fun v10 =>
            bnd (F.eq q7.2 0) fun v11 =>
            bite v11 (
              some (.inl (x2, (0, (v10, ()))))) (
              bnd (F.add .i64 x1 q7.2) fun v12 =>
              image_numbers_i29_l1 fl n x0 v12 x2 v10))))) (
      some (.inr (x2, (x3, ()))))

/-- glazier/image.numbers -/
noncomputable def image_numbers (fl : Nat) (x0 : List (Int)) : Option (List (Int)) :=
  obind (wire_All x0) fun q1 =>
  obind (image_numbers_i29_l1 fl fl q1 0 q1 []) fun q2 =>
  osum q2 (fun s3 =>
    bite (F.eq s3.2.1 0) (
      some s3.2.2.1) (
      bgd (F.eq s3.2.1 2) (
        some []))) (fun r4 =>
    some r4.2.1)

noncomputable def image_Take_l1 (fl : Nat) : Nat → (List (Int)) → (List (Int)) → Int → Int → Int → Int → (List (Int × Int × Int × Int)) → Int → Int → Int → Int → Option (List (Int) × List (Int) × Int × Int × (List (Int × Int × Int × Int)) × Unit)
  | 0, _, _, _, _, _, _, _, _, _, _, _ => none
  | n + 1, x0, x1, x2, x3, x4, x5, x6, x7, x8, x9, x10 =>
    bnd (F.lt x3 x2) fun v11 =>
    bite v11 (
      bgd (F.appOk 4 x6 [(x7, (x8, (x9, x10)))]) (
        bnd (F.app x6 [(x7, (x8, (x9, x10)))]) fun v12 =>
        bnd (F.add .i64 x3 1) fun v13 =>
        image_Take_l1 fl n x0 x1 x2 v13 x4 x5 v12 x7 x8 x9 x10)) (
      some (x0, (x1, (x4, (x5, (x6, ()))))))

noncomputable def image_Take_l2 (fl : Nat) : Nat → (List (Int)) → (List (Int)) → Int → Int → Int → Int → (List (Int × Int × Int × Int)) → Int → Int → Int → Int → Option (List (Int) × List (Int) × Int × Int × (List (Int × Int × Int × Int)) × Unit)
  | 0, _, _, _, _, _, _, _, _, _, _, _ => none
  | n + 1, x0, x1, x2, x3, x4, x5, x6, x7, x8, x9, x10 =>
    bnd (F.lt x3 x2) fun v11 =>
    bite v11 (
      bgd (F.appOk 4 x6 [(x7, (x8, (x9, x10)))]) (
        bnd (F.app x6 [(x7, (x8, (x9, x10)))]) fun v12 =>
        bnd (F.add .i64 x3 1) fun v13 =>
        image_Take_l2 fl n x0 x1 x2 v13 x4 x5 v12 x7 x8 x9 x10)) (
      some (x0, (x1, (x4, (x5, (x6, ()))))))

noncomputable def image_Take_l3 (fl : Nat) : Nat → (List (Int)) → (List (Int)) → Int → Int → (List (Int × Int × Int × Int)) → Option (List (Int) × Int × Int × (List (Int × Int × Int × Int)) × Unit)
  | 0, _, _, _, _, _ => none
  | n + 1, x0, x1, x2, x3, x4 =>
    bnd (F.len x1) fun v5 =>
    bnd (F.ge v5 5) fun v6 =>
    bite v6 (
      obind (F.get x1 1) fun q7 =>
      bnd (F.conv .u8 q7) fun v8 =>
      obind (F.get x1 2) fun q9 =>
      bnd (F.conv .u8 q9) fun v10 =>
      obind (F.get x1 3) fun q11 =>
      bnd (F.conv .u8 q11) fun v12 =>
      obind (F.get x1 4) fun q13 =>
      bnd (F.conv .u8 q13) fun v14 =>
      obind (F.get x1 0) fun q15 =>
      bnd (F.max q15 0) fun v16 =>
      bnd (F.len x4) fun v17 =>
      bnd (F.min v17 4097) fun v18 =>
      bnd (F.sub .i64 4097 v18) fun v19 =>
      bnd (F.min v16 v19) fun v20 =>
      obind (image_Take_l2 fl fl x0 x1 v20 0 x2 x3 x4 v8 v10 v12 v14) fun q21 =>
      bgd (F.cutOk q21.2.1 5 (F.len q21.2.1)) (
        bnd (F.cut q21.2.1 5 (F.len q21.2.1)) fun v22 =>
        image_Take_l3 fl n q21.1 v22 q21.2.2.1 q21.2.2.2.1 q21.2.2.2.2.1)) (
      some (x0, (x2, (x3, (x4, ())))))

/-- bytes.Equal -/
noncomputable def bytes_Equal (x0 : List (Int)) (x1 : List (Int)) : Option (Bool) :=
  bnd (F.str x0) fun v2 =>
  bnd (F.str x1) fun v3 =>
  bnd (F.seq v2 v3) fun v4 =>
  some v4

/-- glazier/image.Take -/
noncomputable def image_Take (fl : Nat) (x0 : List (Int)) : Option ((Int × Int × List (Int × Int × Int × Int)) × Int) :=
  obind (image_numbers fl x0) fun q1 =>
  bnd (F.len q1) fun v2 =>
  bnd (F.lt v2 2) fun v3 =>
  bite v3 (
    some ((0, (0, [])), 10)) (
    obind (F.get q1 0) fun q4 =>
    obind (F.get q1 1) fun q5 =>
    bgd (F.cutOk q1 2 (F.len q1)) (
      bnd (F.cut q1 2 (F.len q1)) fun v6 =>
      obind (image_Take_l3 fl fl x0 v6 q4 q5 []) fun q7 =>
      obind (image_Put fl (q7.2.1, (q7.2.2.1, q7.2.2.2.1))) fun q8 =>
      bnd (F.ne q8.2 0) fun v9 =>
      bite v9 (
        some ((0, (0, [])), 10)) (
        obind (bytes_Equal q8.1 q7.1) fun q10 =>
        bnd (F.not q10) fun v11 =>
        bite v11 (
          some ((0, (0, [])), 10)) (
          some ((q7.2.1, (q7.2.2.1, q7.2.2.2.1)), 0)))))

noncomputable def glazierref03_Take_l1 (fl : Nat) : Nat → (List (Int)) → Int → Int → Int → Option (((Int × List (Int) × Bool × Unit) ⊕ (Unit)))
  | 0, _, _, _, _ => none
  | n + 1, x0, x1, x2, x3 =>
    bnd (F.len x0) fun v4 =>
    bnd (F.lt x3 v4) fun v5 =>
    bite v5 (
      bnd (F.lt x3 10) fun v6 =>
      bite v6 (
        obind (F.get x0 x3) fun q7 =>
        bnd (F.rem q7 128) fun v8 =>
        bnd (F.conv .u64 v8) fun v9 =>
        bnd (F.mul .u64 v9 x2) fun v10 =>
        bnd (F.add .u64 x1 v10) fun v11 =>
        bnd (F.mul .u64 x2 128) fun v12 =>
        obind (F.get x0 x3) fun q13 =>
        bnd (F.lt q13 128) fun v14 =>
        bite v14 (
          bnd (F.quo .u64 v11 2) fun v15 =>
          bnd (F.conv .i64 v15) fun v16 =>
          bnd (F.rem v11 2) fun v17 =>
          bnd (F.eq v17 1) fun v18 =>
          bite v18 (
            bnd (F.neg .i64 v16) fun v19 =>
            bnd (F.sub .i64 v19 1) fun v20 =>
            obind (glazierref03_one fl v20) fun q21 =>
            bnd (F.str q21) fun v22 =>
            bnd (F.add .i64 x3 1) fun v23 =>
            bgd (F.cutOk x0 0 v23) (
              bnd (F.cut x0 0 v23) fun v24 =>
              bnd (F.str v24) fun v25 =>
              bnd (F.sne v22 v25) fun v26 =>
              bite v26 (
                some (.inl (0, ([], (false, ()))))) (
                bnd (F.add .i64 x3 1) fun v27 =>
                bgd (F.cutOk x0 v27 (F.len x0)) (
                  bnd (F.cut x0 v27 (F.len x0)) fun v28 =>
                  bgd (F.appOk (α := Unit) 1 [] v28) (
                    bnd (F.app [] v28) fun v29 =>
                    some (.inl (v20, (v29, (true, ()))))))))) (
            obind (glazierref03_one fl v16) fun q30 =>
            bnd (F.str q30) fun v31 =>
            bnd (F.add .i64 x3 1) fun v32 =>
            bgd (F.cutOk x0 0 v32) (
              bnd (F.cut x0 0 v32) fun v33 =>
              bnd (F.str v33) fun v34 =>
              bnd (F.sne v31 v34) fun v35 =>
              bite v35 (
                some (.inl (0, ([], (false, ()))))) (
                bnd (F.add .i64 x3 1) fun v36 =>
                bgd (F.cutOk x0 v36 (F.len x0)) (
                  bnd (F.cut x0 v36 (F.len x0)) fun v37 =>
                  bgd (F.appOk (α := Unit) 1 [] v37) (
                    bnd (F.app [] v37) fun v38 =>
                    some (.inl (v16, (v38, (true, ())))))))))) (
          bnd (F.add .i64 x3 1) fun v39 =>
          glazierref03_Take_l1 fl n x0 v11 v12 v39)) (
        some (.inr ()))) (
      some (.inr ()))

/-- glazier/glazierref03.Take -/
noncomputable def glazierref03_Take (fl : Nat) (x0 : List (Int)) : Option (Int × List (Int) × Bool) :=
  obind (glazierref03_Take_l1 fl fl x0 0 1 0) fun q1 =>
  osum q1 (fun s2 =>
    some (s2.1, (s2.2.1, s2.2.2.1))) (fun r3 =>
    some (0, ([], false)))

noncomputable def glazierref03_All_l1 (fl : Nat) : Nat → (List (Int)) → (List (Int)) → Option (((List (Int) × Unit) ⊕ (List (Int) × Unit)))
  | 0, _, _ => none
  | n + 1, x0, x1 =>
    bnd (F.len x0) fun v2 =>
    bnd (F.gt v2 0) fun v3 =>
    bite v3 (
      obind (glazierref03_Take fl x0) fun q4 =>
      bnd (F.not q4.2.2) fun v5 =>
      bite v5 (
        some (.inl (x1, ()))) (
        bgd (F.appOk 8 x1 [q4.1]) (
          bnd (F.app x1 [q4.1]) fun v6 =>
          glazierref03_All_l1 fl n q4.2.1 v6))) (
      some (.inr (x1, ())))

/-- glazier/glazierref03.All -/
noncomputable def glazierref03_All (fl : Nat) (x0 : List (Int)) : Option (List (Int) × Bool) :=
  obind (glazierref03_All_l1 fl fl x0 []) fun q1 =>
  osum q1 (fun s2 =>
    some (s2.1, true)) (fun r3 =>
    some (r3.1, false))

noncomputable def glazierref24_Take_l1 (fl : Nat) : Nat → (List (Int)) → (List (Int)) → Int → Int → Int → Int → (List (Int × Int × Int × Int)) → Option (List (Int) × List (Int) × Int × Int × Int × (List (Int × Int × Int × Int)) × Unit)
  | 0, _, _, _, _, _, _, _ => none
  | n + 1, x0, x1, x2, x3, x4, x5, x6 =>
    obind (F.get x1 x2) fun q7 =>
    bnd (F.lt x3 q7) fun v8 =>
    bite v8 (
      bnd (F.len x6) fun v9 =>
      bnd (F.lt v9 4097) fun v10 =>
      bite v10 (
        bnd (F.add .i64 x2 1) fun v11 =>
        obind (F.get x1 v11) fun q12 =>
        bnd (F.conv .u8 q12) fun v13 =>
        bnd (F.add .i64 x2 2) fun v14 =>
        obind (F.get x1 v14) fun q15 =>
        bnd (F.conv .u8 q15) fun v16 =>
        bnd (F.add .i64 x2 3) fun v17 =>
        obind (F.get x1 v17) fun q18 =>
        bnd (F.conv .u8 q18) fun v19 =>
        bnd (F.add .i64 x2 4) fun v20 =>
        obind (F.get x1 v20) fun q21 =>
        bnd (F.conv .u8 q21) fun v22 =>
        bgd (F.appOk 4 x6 [(v13, (v16, (v19, v22)))]) (
          bnd (F.app x6 [(v13, (v16, (v19, v22)))]) fun v23 =>
          bnd (F.add .i64 x3 1) fun v24 =>
          glazierref24_Take_l1 fl n x0 x1 x2 v24 x4 x5 v23)) (
        some (x0, (x1, (x2, (x4, (x5, (x6, ())))))))) (
      some (x0, (x1, (x2, (x4, (x5, (x6, ())))))))

noncomputable def glazierref24_Take_l2 (fl : Nat) : Nat → (List (Int)) → (List (Int)) → Int → Int → Int → (List (Int × Int × Int × Int)) → Option (List (Int) × Int × Int × (List (Int × Int × Int × Int)) × Unit)
  | 0, _, _, _, _, _, _ => none
  | n + 1, x0, x1, x2, x3, x4, x5 =>
    bnd (F.add .i64 x2 5) fun v6 =>
    bnd (F.len x1) fun v7 =>
    bnd (F.le v6 v7) fun v8 =>
    bite v8 (
      obind (glazierref24_Take_l1 fl fl x0 x1 x2 0 x3 x4 x5) fun q9 =>
      bnd (F.add .i64 q9.2.2.1 5) fun v10 =>
      glazierref24_Take_l2 fl n q9.1 q9.2.1 v10 q9.2.2.2.1 q9.2.2.2.2.1 q9.2.2.2.2.2.1) (
      some (x0, (x3, (x4, (x5, ())))))

/-- glazier/glazierref24.Take -/
noncomputable def glazierref24_Take (fl : Nat) (x0 : List (Int)) : Option ((Int × Int × List (Int × Int × Int × Int)) × Int) :=
  obind (glazierref03_All fl x0) fun q1 =>
  bnd (F.len q1.1) fun v2 =>
  bnd (F.lt v2 2) fun v3 =>
  bite v3 (
    some ((0, (0, [])), 10)) (
    obind (F.get q1.1 0) fun q4 =>
    obind (F.get q1.1 1) fun q5 =>
    obind (glazierref24_Take_l2 fl fl x0 q1.1 2 q4 q5 []) fun q6 =>
    obind (glazierref24_Put fl (q6.2.1, (q6.2.2.1, q6.2.2.2.1))) fun q7 =>
    bnd (F.ne q7.2 0) fun v8 =>
    bite v8 (
      some ((0, (0, [])), 10)) (
      bnd (F.str q7.1) fun v9 =>
      bnd (F.str q6.1) fun v10 =>
      bnd (F.sne v9 v10) fun v11 =>
      bite v11 (
        some ((0, (0, [])), 10)) (
        some ((q6.2.1, (q6.2.2.1, q6.2.2.2.1)), 0))))

noncomputable def glazierref02_Same_l1 (fl : Nat) : Nat → (List (Int × Int × Int × Int)) → (List (Int × Int × Int × Int)) → Int → Option (((Unit) ⊕ (Unit)))
  | 0, _, _, _ => none
  | n + 1, x0, x1, x2 =>
    bnd (F.len x0) fun v3 =>
    bnd (F.lt x2 v3) fun v4 =>
    bite v4 (
      obind (F.get x0 x2) fun q5 =>
      obind (F.get x1 x2) fun q6 =>
      bnd (F.not (F.both (F.eq q5.1 q6.1) (F.both (F.eq q5.2.1 q6.2.1) (F.both (F.eq q5.2.2.1 q6.2.2.1) (F.eq q5.2.2.2 q6.2.2.2))))) fun v7 =>
      bite v7 (
        some (.inl ())) (
        bnd (F.add .i64 x2 1) fun v8 =>
        glazierref02_Same_l1 fl n x0 x1 v8)) (
      some (.inr ()))

/-- glazier/glazierref02.Same -/
noncomputable def glazierref02_Same (fl : Nat) (x0 : List (Int × Int × Int × Int)) (x1 : List (Int × Int × Int × Int)) : Option (Bool) :=
  bnd (F.len x0) fun v2 =>
  bnd (F.len x1) fun v3 =>
  bnd (F.ne v2 v3) fun v4 =>
  bite v4 (
    some false) (
    obind (glazierref02_Same_l1 fl fl x0 x1 0) fun q5 =>
    osum q5 (fun s6 =>
      some false) (fun r7 =>
      some true))

noncomputable def glazierlaw24_gone_i25_l1 (fl : Nat) : Nat → (List (Int × Int × Int × Int)) → Int → Int → (List (Int × Int × Int × Int)) → (List (Int × Int × Int × Int)) → Int → (List (Int)) → (List (Int × Int × Int × Int)) → Option ((List (Int × Int × Int × Int)) × Int × Int × (List (Int × Int × Int × Int)) × (List (Int × Int × Int × Int)) × Int × List (Int) × (List (Int × Int × Int × Int)) × Unit)
  | 0, _, _, _, _, _, _, _, _ => none
  | n + 1, x0, x1, x2, x3, x4, x5, x6, x7 =>
    bnd (F.len x0) fun v8 =>
    bnd (F.lt x2 v8) fun v9 =>
    bite v9 (
      obind (F.get x0 x2) fun q10 =>
      obind (F.get x0 x1) fun q11 =>
      bnd (F.both (F.eq q10.1 q11.1) (F.both (F.eq q10.2.1 q11.2.1) (F.both (F.eq q10.2.2.1 q11.2.2.1) (F.eq q10.2.2.2 q11.2.2.2)))) fun v12 =>
      bite v12 (
        bnd (F.add .i64 x2 1) fun v13 =>
        glazierlaw24_gone_i25_l1 fl n x0 x1 v13 x3 x4 x5 x6 x7) (
        some (x0, (x1, (x2, (x3, (x4, (x5, (x6, (x7, ())))))))))) (
      some (x0, (x1, (x2, (x3, (x4, (x5, (x6, (x7, ())))))))))

noncomputable def glazierlaw24_gone_i25_l2 (fl : Nat) : Nat → (List (Int × Int × Int × Int)) → Int → Int → (List (Int × Int × Int × Int)) → (List (Int × Int × Int × Int)) → Int → (List (Int)) → (List (Int × Int × Int × Int)) → Option ((((List (Int × Int × Int × Int)) × Int × (List (Int × Int × Int × Int)) × Int × List (Int) × (List (Int × Int × Int × Int)) × Unit) ⊕ ((List (Int × Int × Int × Int)) × (List (Int × Int × Int × Int)) × Int × List (Int) × (List (Int × Int × Int × Int)) × Unit)))
  | 0, _, _, _, _, _, _, _, _ => none
  | n + 1, x0, x1, x2, x3, x4, x5, x6, x7 =>
    bnd (F.len x0) fun v8 =>
    bnd (F.lt x1 v8) fun v9 =>
    bite v9 (
      obind (glazierlaw24_gone_i25_l1 fl fl x0 x1 x2 x3 x4 x5 x6 x7) fun q10 =>
      bnd (F.sub .i64 q10.2.2.1 q10.2.1) fun v11 =>
      obind (F.get q10.1 q10.2.1) fun q12 =>
      bgd (F.appOk 8 q10.2.2.2.2.2.2.1 [v11]) (
        bnd (F.app q10.2.2.2.2.2.2.1 [v11]) fun v13 =>
        bgd (F.appOk 4 q10.2.2.2.2.2.2.2.1 [q12]) (
          bnd (F.app q10.2.2.2.2.2.2.2.1 [q12]) fun v14 =>
          bnd (F.len v14) fun v15 =>
          bnd (F.ge v15 q10.2.2.2.2.2.1) fun v16 =>
          bite v16 (
            some (.inl (q10.2.2.2.1, (3, (q10.2.2.2.2.1, (q10.2.2.2.2.2.1, (v13, (v14, ())))))))) (
            bnd (F.len v14) fun v17 =>
            bnd (F.len q10.2.2.2.2.1) fun v18 =>
            bnd (F.gt v17 v18) fun v19 =>
            bite v19 (
              some (.inl (q10.2.2.2.1, (2, (q10.2.2.2.2.1, (q10.2.2.2.2.2.1, (v13, (v14, ())))))))) (
              glazierlaw24_gone_i25_l2 fl n q10.1 q10.2.2.1 q10.2.2.1 q10.2.2.2.1 q10.2.2.2.2.1 q10.2.2.2.2.2.1 v13 v14))))) (
      some (.inr (x3, (x4, (x5, (x6, (x7, ())))))))

/-- glazier/glazierlaw24.gone -/
noncomputable def glazierlaw24_gone (fl : Nat) (x0 : List (Int × Int × Int × Int)) (x1 : Int) : Option (List (Int) × (List (Int × Int × Int × Int)) × Bool) :=
  obind (image_Runs x0) fun q2 =>
  obind (glazierlaw24_gone_i25_l2 fl fl q2 0 0 q2 x0 x1 [] []) fun q3 =>
  osum q3 (fun s4 =>
    bite (F.eq s4.2.1 0) (
      some (s4.2.2.2.2.1, (s4.2.2.2.2.2.1, true))) (
      bite (F.eq s4.2.1 2) (
        some ([], ([], false))) (
        bgd (F.eq s4.2.1 3) (
          some (s4.2.2.2.2.1, (s4.2.2.2.2.2.1, true)))))) (fun r5 =>
    some (r5.2.2.2.1, (r5.2.2.2.2.1, true)))

noncomputable def glazierref03_Same_l1 (fl : Nat) : Nat → (List (Int)) → (List (Int)) → Int → Option (((Unit) ⊕ (Unit)))
  | 0, _, _, _ => none
  | n + 1, x0, x1, x2 =>
    bnd (F.len x0) fun v3 =>
    bnd (F.lt x2 v3) fun v4 =>
    bite v4 (
      obind (F.get x0 x2) fun q5 =>
      obind (F.get x1 x2) fun q6 =>
      bnd (F.ne q5 q6) fun v7 =>
      bite v7 (
        some (.inl ())) (
        bnd (F.add .i64 x2 1) fun v8 =>
        glazierref03_Same_l1 fl n x0 x1 v8)) (
      some (.inr ()))

/-- glazier/glazierref03.Same -/
noncomputable def glazierref03_Same (fl : Nat) (x0 : List (Int)) (x1 : List (Int)) : Option (Bool) :=
  bnd (F.len x0) fun v2 =>
  bnd (F.len x1) fun v3 =>
  bnd (F.ne v2 v3) fun v4 =>
  bite v4 (
    some false) (
    obind (glazierref03_Same_l1 fl fl x0 x1 0) fun q5 =>
    osum q5 (fun s6 =>
      some false) (fun r7 =>
      some true))

/-- glazier/glazierlaw24.ImageAll -/
noncomputable def glazierlaw24_ImageAll (fl : Nat) (x0 : Int × Int × List (Int × Int × Int × Int)) (x1 : List (Int)) : Option (Bool) :=
  obind (glazierlaw24_shown fl) fun q2 =>
  bnd (F.len x0.2.2) fun v3 =>
  bnd (F.gt v3 400) fun v4 =>
  bite v4 (
    bgd (F.cutOk x0.2.2 0 400) (
      bnd (F.cut x0.2.2 0 400) fun v5 =>
      bnd (F.len x1) fun v6 =>
      bnd (F.gt v6 600) fun v7 =>
      bite v7 (
        bgd (F.cutOk x1 0 600) (
          bnd (F.cut x1 0 600) fun v8 =>
          obind (image_Put fl (x0.1, (x0.2.1, v5))) fun q9 =>
          obind (glazierref24_Put fl (x0.1, (x0.2.1, v5))) fun q10 =>
          obind (image_Take fl v8) fun q11 =>
          obind (glazierref24_Take fl v8) fun q12 =>
          obind (glazierref02_Same fl q11.1.2.2 q12.1.2.2) fun q13 =>
          obind (glazierlaw24_gone fl v5 10000) fun q14 =>
          obind (glazierref24_Runs fl v5) fun q15 =>
          obind (glazierref03_Same fl q14.1 q15.1) fun q16 =>
          obind (glazierref02_Same fl q14.2.1 q15.2) fun q17 =>
          bite q2 (
            bnd (F.str q9.1) fun v18 =>
            bnd (F.str q10.1) fun v19 =>
            bnd (F.seq v18 v19) fun v20 =>
            bite v20 (
              bnd (F.eq q9.2 q10.2) fun v21 =>
              bite v21 (
                bite q13 (
                  bnd (F.eq q11.1.1 q12.1.1) fun v22 =>
                  bite v22 (
                    bnd (F.eq q11.1.2.1 q12.1.2.1) fun v23 =>
                    bite v23 (
                      bnd (F.eq q11.2 q12.2) fun v24 =>
                      bite v24 (
                        bite q14.2.2 (
                          bite q16 (
                            some q17) (
                            some false)) (
                          some false)) (
                        some false)) (
                      some false)) (
                    some false)) (
                  some false)) (
                some false)) (
              some false)) (
            some false))) (
        obind (image_Put fl (x0.1, (x0.2.1, v5))) fun q25 =>
        obind (glazierref24_Put fl (x0.1, (x0.2.1, v5))) fun q26 =>
        obind (image_Take fl x1) fun q27 =>
        obind (glazierref24_Take fl x1) fun q28 =>
        obind (glazierref02_Same fl q27.1.2.2 q28.1.2.2) fun q29 =>
        obind (glazierlaw24_gone fl v5 10000) fun q30 =>
        obind (glazierref24_Runs fl v5) fun q31 =>
        obind (glazierref03_Same fl q30.1 q31.1) fun q32 =>
        obind (glazierref02_Same fl q30.2.1 q31.2) fun q33 =>
        bite q2 (
          bnd (F.str q25.1) fun v34 =>
          bnd (F.str q26.1) fun v35 =>
          bnd (F.seq v34 v35) fun v36 =>
          bite v36 (
            bnd (F.eq q25.2 q26.2) fun v37 =>
            bite v37 (
              bite q29 (
                bnd (F.eq q27.1.1 q28.1.1) fun v38 =>
                bite v38 (
                  bnd (F.eq q27.1.2.1 q28.1.2.1) fun v39 =>
                  bite v39 (
                    bnd (F.eq q27.2 q28.2) fun v40 =>
                    bite v40 (
                      bite q30.2.2 (
                        bite q32 (
                          some q33) (
                          some false)) (
                        some false)) (
                      some false)) (
                    some false)) (
                  some false)) (
                some false)) (
              some false)) (
            some false)) (
          some false)))) (
    bnd (F.len x1) fun v41 =>
    bnd (F.gt v41 600) fun v42 =>
    bite v42 (
      bgd (F.cutOk x1 0 600) (
        bnd (F.cut x1 0 600) fun v43 =>
        obind (image_Put fl x0) fun q44 =>
        obind (glazierref24_Put fl x0) fun q45 =>
        obind (image_Take fl v43) fun q46 =>
        obind (glazierref24_Take fl v43) fun q47 =>
        obind (glazierref02_Same fl q46.1.2.2 q47.1.2.2) fun q48 =>
        obind (glazierlaw24_gone fl x0.2.2 10000) fun q49 =>
        obind (glazierref24_Runs fl x0.2.2) fun q50 =>
        obind (glazierref03_Same fl q49.1 q50.1) fun q51 =>
        obind (glazierref02_Same fl q49.2.1 q50.2) fun q52 =>
        bite q2 (
          bnd (F.str q44.1) fun v53 =>
          bnd (F.str q45.1) fun v54 =>
          bnd (F.seq v53 v54) fun v55 =>
          bite v55 (
            bnd (F.eq q44.2 q45.2) fun v56 =>
            bite v56 (
              bite q48 (
                bnd (F.eq q46.1.1 q47.1.1) fun v57 =>
                bite v57 (
                  bnd (F.eq q46.1.2.1 q47.1.2.1) fun v58 =>
                  bite v58 (
                    bnd (F.eq q46.2 q47.2) fun v59 =>
                    bite v59 (
                      bite q49.2.2 (
                        bite q51 (
                          some q52) (
                          some false)) (
                        some false)) (
                      some false)) (
                    some false)) (
                  some false)) (
                some false)) (
              some false)) (
            some false)) (
          some false))) (
      obind (image_Put fl x0) fun q60 =>
      obind (glazierref24_Put fl x0) fun q61 =>
      obind (image_Take fl x1) fun q62 =>
      obind (glazierref24_Take fl x1) fun q63 =>
      obind (glazierref02_Same fl q62.1.2.2 q63.1.2.2) fun q64 =>
      obind (glazierlaw24_gone fl x0.2.2 10000) fun q65 =>
      obind (glazierref24_Runs fl x0.2.2) fun q66 =>
      obind (glazierref03_Same fl q65.1 q66.1) fun q67 =>
      obind (glazierref02_Same fl q65.2.1 q66.2) fun q68 =>
      bite q2 (
        bnd (F.str q60.1) fun v69 =>
        bnd (F.str q61.1) fun v70 =>
        bnd (F.seq v69 v70) fun v71 =>
        bite v71 (
          bnd (F.eq q60.2 q61.2) fun v72 =>
          bite v72 (
            bite q64 (
              bnd (F.eq q62.1.1 q63.1.1) fun v73 =>
              bite v73 (
                bnd (F.eq q62.1.2.1 q63.1.2.1) fun v74 =>
                bite v74 (
                  bnd (F.eq q62.2 q63.2) fun v75 =>
                  bite v75 (
                    bite q65.2.2 (
                      bite q67 (
                        some q68) (
                        some false)) (
                      some false)) (
                    some false)) (
                  some false)) (
                some false)) (
              some false)) (
            some false)) (
          some false)) (
        some false)))


end Go.Proofs.Ytepifmbnajpgeaa.G
