/- Each part of the law, put together. -/
import Derived.Test.YtkacojopcajboaaMchZ
import Derived.Test.YtkacojopcajboaaGen
import Derived.KernelRfl
set_option linter.unusedVariables false
namespace Go.Proofs.Ytkacojopcajboaa.G
open Go Go.RowKit Go.Proofs.Ytkacojopcajboaa.M
theorem wrapI {n:Int} (h1:-9223372036854775808 <= n) (h2:n <= 9223372036854775807):IntKind.wrap .i64 n = n:=by
 simp only [IntKind.wrap,IntKind.bits,IntKind.signed];simp;split <;> omega
theorem wrapU {n:Int} (h1:0 <= n) (h2:n <= 18446744073709551615):IntKind.wrap .u64 n = n:=by
 simp only [IntKind.wrap,IntKind.bits,IntKind.signed];simp;omega
theorem inR_i64 {x:Int}:inR .i64 x ↔ -9223372036854775808 <= x /\ x <= 9223372036854775807:=by
 unfold inR;simp [Lit.wf,IntKind.min,IntKind.max,IntKind.signed,IntKind.bits]
theorem inR_u8 {x:Int}:inR .u8 x ↔ 0 <= x /\ x <= 255:=by
 unfold inR;simp [Lit.wf,IntKind.min,IntKind.max,IntKind.signed,IntKind.bits]
theorem tmod_lt {a m:Int} (hm:0 < m):-m < Int.tmod a m /\ Int.tmod a m < m:=by
 have h1:=Int.tmod_lt_of_pos a hm;have h2:=Int.lt_tmod_of_pos a hm;exact ⟨h2,h1⟩
/-! ### The words, of numbers that fit -/
theorem bnd_eq {α β:Type} (e:α) (f:α -> Option β):bnd e f = f e:=rfl
theorem ob_some {α β:Type} (e:α) (f:α -> Option β):obind (some e) f = f e:=rfl
theorem bite_t {β:Type} (x y:Option β):bite true x y = x:=rfl
theorem bite_f {β:Type} (x y:Option β):bite false x y = y:=rfl
theorem bgd_t {β:Type} (x:Option β):bgd true x = x:=rfl
theorem addI {a b:Int} (h:-9223372036854775808 <= a + b /\ a + b <= 9223372036854775807):F.add .i64 a b = a + b:=wrapI h.1 h.2
theorem subI {a b:Int} (h:-9223372036854775808 <= a - b /\ a - b <= 9223372036854775807):F.sub .i64 a b = a - b:=wrapI h.1 h.2
theorem mulI {a b:Int} (h:-9223372036854775808 <= a * b /\ a * b <= 9223372036854775807):F.mul .i64 a b = a * b:=wrapI h.1 h.2
theorem negI {a:Int} (h:-9223372036854775807 <= a /\ a <= 9223372036854775807):F.neg .i64 a = -a:=by
 rw [F.neg,wrapI (by omega) (by omega)]; omega
theorem convI {a:Int} (h:-9223372036854775808 <= a /\ a <= 9223372036854775807):F.conv .i64 a = a:=wrapI h.1 h.2
theorem addU {a b:Int} (h:0 <= a + b /\ a + b <= 18446744073709551615):F.add .u64 a b = a + b:=wrapU h.1 h.2
theorem subU {a b:Int} (h:0 <= a - b /\ a - b <= 18446744073709551615):F.sub .u64 a b = a - b:=wrapU h.1 h.2
theorem mulU {a b:Int} (h:0 <= a * b /\ a * b <= 18446744073709551615):F.mul .u64 a b = a * b:=wrapU h.1 h.2
theorem convU {a:Int} (h:0 <= a /\ a <= 18446744073709551615):F.conv .u64 a = a:=wrapU h.1 h.2
theorem shrU32 {a:Int}:F.shr .u64 a 32 = a / 4294967296:=by
 rw [show (4294967296:Int) = 2 ^ 32 from rfl,<- Int.fdiv_eq_ediv_of_nonneg _ (by decide)]; rfl
theorem f_eq {a b:Int}:F.eq a b = decide (a = b):=rfl
theorem f_ne {a b:Int}:F.ne a b = decide (a ≠ b):=by rw [F.ne,bne,Bool.eq_iff_iff]; simp
theorem f_min {a b:Int}:F.min a b = min a b:=by unfold F.min; split <;> omega
theorem f_max {a b:Int}:F.max a b = max a b:=by unfold F.max; split <;> omega
theorem eq_t {a b:Int} (h:a = b):F.eq a b = true:=decide_eq_true h
theorem eq_f {a b:Int} (h:a ≠ b):F.eq a b = false:=decide_eq_false h
theorem ne_f {a b:Int} (h:a = b):F.ne a b = false:=by rw [f_ne]; exact decide_eq_false (fun k=>k h)
theorem ne_t {a b:Int} (h:a ≠ b):F.ne a b = true:=by rw [f_ne]; exact decide_eq_true h
theorem lt_t {a b:Int} (h:a < b):F.lt a b = true:=decide_eq_true h
theorem lt_f {a b:Int} (h:b <= a):F.lt a b = false:=decide_eq_false (by omega)
theorem le_t {a b:Int} (h:a <= b):F.le a b = true:=decide_eq_true h
theorem le_f {a b:Int} (h:b < a):F.le a b = false:=decide_eq_false (by omega)
theorem gt_t {a b:Int} (h:b < a):F.gt a b = true:=decide_eq_true h
theorem gt_f {a b:Int} (h:a <= b):F.gt a b = false:=decide_eq_false (by omega)
theorem ge_t {a b:Int} (h:b <= a):F.ge a b = true:=decide_eq_true h
theorem ge_f {a b:Int} (h:a < b):F.ge a b = false:=decide_eq_false (by omega)
theorem nz_t {a:Int} (h:a ≠ 0):F.nonzero a = true:=decide_eq_true h
theorem nn_t {a:Int} (h:0 <= a):F.nonneg a = true:=decide_eq_true h
theorem not_t:F.not true = false:=rfl
theorem not_f:F.not false = true:=rfl
theorem fdiv_at {p c q:Int} (hc:0 < c) (h1:c * q <= p) (h2:p < c * q + c):Int.fdiv p c = q:=by
 rw [Int.fdiv_eq_ediv_of_nonneg _ (by omega)]
 have h3:p / c * c <= p:=Int.ediv_mul_le p (by omega)
 have h4:p < (p / c + 1) * c:=Int.lt_ediv_add_one_mul_self p hc;rw [Int.mul_comm] at h3 h4;have a:c * (p / c) < c * (q + 1):=by rw [Int.mul_add]; omega
 have b:c * q < c * (p / c + 1):=by omega
 have a:=Int.lt_of_mul_lt_mul_left a (by omega)
 have b:=Int.lt_of_mul_lt_mul_left b (by omega)
 omega
theorem fdiv_in {p c:Int} (hc:0 < c):c * Int.fdiv p c <= p /\ p < c * Int.fdiv p c + c:=by
 rw [Int.fdiv_eq_ediv_of_nonneg _ (by omega)]
 have h3:p / c * c <= p:=Int.ediv_mul_le p (by omega)
 have h4:p < (p / c + 1) * c:=Int.lt_ediv_add_one_mul_self p hc;rw [Int.mul_comm] at h3;rw [Int.add_mul,Int.mul_comm] at h4;omega
theorem fdiv_lim {p c m:Int} (hc:0 < c) (h1:-m <= p) (h2:p <= m) (hm:0 <= m):-m <= Int.fdiv p c /\ Int.fdiv p c <= m:=by
 obtain ⟨a,b⟩:=fdiv_in (p:=p) hc;refine ⟨?_,?_⟩
 ·refine Int.not_lt.1 fun h=>?_
  have:c * (Int.fdiv p c + 1) <= c * (-m):=Int.mul_le_mul_of_nonneg_left (by omega) (by omega)
  have k:c * (-m) <= -m:=by have:=Int.mul_le_mul_of_nonneg_right (show 1 <= c by omega) hm; rw [Int.mul_neg]; omega
  rw [Int.mul_add] at this;omega
 ·refine Int.not_lt.1 fun h=>?_
  have:c * (m + 1) <= c * Int.fdiv p c:=Int.mul_le_mul_of_nonneg_left (by omega) (by omega)
  have k:m <= c * m:=by have:=Int.mul_le_mul_of_nonneg_right (show 1 <= c by omega) hm; omega
  rw [Int.mul_add] at this;omega
theorem fdiv_mono {p q c:Int} (hc:0 < c) (h:p <= q):Int.fdiv p c <= Int.fdiv q c:=by
 rw [Int.fdiv_eq_ediv_of_nonneg _ (by omega),Int.fdiv_eq_ediv_of_nonneg _ (by omega)]
 exact Int.ediv_le_ediv hc h
end Go.Proofs.Ytkacojopcajboaa.G
namespace Go.Proofs.Ytkacojopcajboaa.G
open Go Go.Proofs.Ytkacojopcajboaa.M
noncomputable def glazierref12_three (x0:Int):Option (Bool):=
 bnd (F.ge x0 2) fun v1=>
 bite v1 (
  bnd (F.le x0 8) fun v2=>
  bite v2 (
   some true) (
   bnd (F.eq x0 11) fun v3=>
   bite v3 (
    some true) (
    bnd (F.eq x0 13) fun v4=>
    bite v4 (
     some true) (
     bnd (F.eq x0 14) fun v5=>
     some v5)))) (
  bnd (F.eq x0 11) fun v6=>
  bite v6 (
   some true) (
   bnd (F.eq x0 13) fun v7=>
   bite v7 (
    some true) (
    bnd (F.eq x0 14) fun v8=>
    some v8)))
noncomputable def glazierref12_One (x0:Int × Int × Int × Int × Int) (x1:Int) (x2:Int):Option (Bool):=
 bnd (F.gt x0.2.1 7) fun v3=>
 bite v3 (
  some false) (
  bnd (F.gt x0.2.2.1 7) fun v4=>
  bite v4 (
   some false) (
   bnd (F.gt x0.2.2.2.1 7) fun v5=>
   bite v5 (
    some false) (
    bnd (F.lt x1 0) fun v6=>
    bite v6 (
     some false) (
     bnd (F.ge x1 x2) fun v7=>
     bite v7 (
      some false) (
      obind (glazierref12_three x0.1) fun q8=>
      bite q8 (
       bnd (F.eq x0.2.2.2.2 0) fun v9=>
       bite v9 (
        bnd (F.lt x0.1 13) fun v10=>
        bite v10 (
         some true) (
         bnd (F.le x0.2.1 4) fun v11=>
         some v11)) (
        some false)) (
       bnd (F.ne x0.2.2.2.1 0) fun v12=>
       bite v12 (
        some false) (
        bnd (F.eq x0.1 0) fun v13=>
        bite v13 (
         bnd (F.eq x0.2.2.1 0) fun v14=>
         bite v14 (
          bnd (F.ge x0.2.2.2.2 (-2147483648)) fun v15=>
          bite v15 (
           bnd (F.le x0.2.2.2.2 2147483647) fun v16=>
           some v16) (
           some false)) (
          some false)) (
         bnd (F.eq x0.1 1) fun v17=>
         bite v17 (
          bnd (F.eq x0.2.2.2.2 0) fun v18=>
          some v18) (
          bnd (F.eq x0.1 9) fun v19=>
          bite v19 (
           bite v19 (
            bnd (F.ge x0.2.2.2.2 0) fun v20=>
            bite v20 (
             bnd (F.le x0.2.2.2.2 31) fun v21=>
             some v21) (
             some false)) (
            bnd (F.eq x0.1 12) fun v22=>
            bite v22 (
             bnd (F.eq x0.2.1 0) fun v23=>
             bite v23 (
              bnd (F.ge x0.2.2.2.2 0) fun v24=>
              bite v24 (
               bnd (F.sub .i64 x2 x1) fun v25=>
               bnd (F.sub .i64 v25 1) fun v26=>
               bnd (F.le x0.2.2.2.2 v26) fun v27=>
               some v27) (
               some false)) (
              some false)) (
             some false))) (
           bnd (F.eq x0.1 10) fun v28=>
           bite v28 (
            bnd (F.ge x0.2.2.2.2 0) fun v29=>
            bite v29 (
             bnd (F.le x0.2.2.2.2 31) fun v30=>
             some v30) (
             some false)) (
            bnd (F.eq x0.1 12) fun v31=>
            bite v31 (
             bnd (F.eq x0.2.1 0) fun v32=>
             bite v32 (
              bnd (F.ge x0.2.2.2.2 0) fun v33=>
              bite v33 (
               bnd (F.sub .i64 x2 x1) fun v34=>
               bnd (F.sub .i64 v34 1) fun v35=>
               bnd (F.le x0.2.2.2.2 v35) fun v36=>
               some v36) (
               some false)) (
              some false)) (
             some false))))))))))))
noncomputable def glazierref12_Check_l1 (fl:Nat):Nat -> (List (Int × Int × Int × Int × Int)) -> Int -> Option (((Unit) ⊕ (Unit)))
 | 0,_,_=>none
 | n + 1,x0,x1=>
  bnd (F.len x0) fun v2=>
  bnd (F.lt x1 v2) fun v3=>
  bite v3 (
   obind (F.get x0 x1) fun q4=>
   bnd (F.len x0) fun v5=>
   obind (glazierref12_One q4 x1 v5) fun q6=>
   bnd (F.not q6) fun v7=>
   bite v7 (
    some (.inl ())) (
    bnd (F.add .i64 x1 1) fun v8=>
    glazierref12_Check_l1 fl n x0 v8)) (
   some (.inr ()))
noncomputable def glazierref12_Check (fl:Nat) (x0:List (Int × Int × Int × Int × Int)):Option (Int):=
 bnd (F.len x0) fun v1=>
 bnd (F.lt v1 1) fun v2=>
 bite v2 (
  some 23) (
  bnd (F.len x0) fun v3=>
  bnd (F.gt v3 32) fun v4=>
  bite v4 (
   some 23) (
   obind (glazierref12_Check_l1 fl fl x0 0) fun q5=>
   osum q5 (fun s6=>
    some 23) (fun r7=>
    some 0)))
noncomputable def glazierref12_Samples_l1 (fl:Nat):Nat -> (List (Int × Int × Int × Int × Int)) -> Int -> Option (((Unit) ⊕ (Unit)))
 | 0,_,_=>none
 | n + 1,x0,x1=>
  bnd (F.len x0) fun v2=>
  bnd (F.lt x1 v2) fun v3=>
  bite v3 (
   obind (F.get x0 x1) fun q4=>
   bnd (F.eq q4.1 13) fun v5=>
   bite v5 (
    some (.inl ())) (
    obind (F.get x0 x1) fun q6=>
    bnd (F.eq q6.1 14) fun v7=>
    bite v7 (
     some (.inl ())) (
     bnd (F.add .i64 x1 1) fun v8=>
     glazierref12_Samples_l1 fl n x0 v8))) (
   some (.inr ()))
noncomputable def glazierref12_Samples (fl:Nat) (x0:List (Int × Int × Int × Int × Int)):Option (Bool):=
 obind (glazierref12_Samples_l1 fl fl x0 0) fun q1=>
 osum q1 (fun s2=>
  some true) (fun r3=>
  some false)
noncomputable def glazierref11_Right (x0:Int × Int × List (Int × Int × Int × Int)):Option (Bool):=
 bnd (F.ge x0.1 1) fun v1=>
 bite v1 (
  bnd (F.le x0.1 16) fun v2=>
  bite v2 (
   bnd (F.ge x0.2.1 1) fun v3=>
   bite v3 (
    bnd (F.le x0.2.1 16) fun v4=>
    bite v4 (
     bnd (F.len x0.2.2) fun v5=>
     bnd (F.mul .i64 x0.1 x0.2.1) fun v6=>
     bnd (F.eq v5 v6) fun v7=>
     some v7) (
     some false)) (
    some false)) (
   some false)) (
  some false)
noncomputable def glazierref13_Wrap (x0:Int):Option (Int):=
 bnd (F.rem x0 4294967296) fun v1=>
 bnd (F.lt v1 0) fun v2=>
 bite v2 (
  bnd (F.add .i64 v1 4294967296) fun v3=>
  bnd (F.ge v3 2147483648) fun v4=>
  bite v4 (
   bnd (F.sub .i64 v3 4294967296) fun v5=>
   some v5) (
   some v3)) (
  bnd (F.ge v1 2147483648) fun v6=>
  bite v6 (
   bnd (F.sub .i64 v1 4294967296) fun v7=>
   some v7) (
   some v1))
noncomputable def glazierref12_Target (x0:Int × Int × Int × Int × Int) (x1:Int):Option (Int):=
 bnd (F.eq x0.1 12) fun v2=>
 bite v2 (
  bnd (F.add .i64 x1 1) fun v3=>
  bnd (F.add .i64 v3 x0.2.2.2.2) fun v4=>
  some v4) (
  bnd (F.add .i64 x1 1) fun v5=>
  some v5)
noncomputable def glazierref01_size (x0:Int):Option (Int):=
 bnd (F.lt x0 0) fun v1=>
 bite v1 (
  bnd (F.conv .u64 x0) fun v2=>
  bnd (F.sub .u64 0 v2) fun v3=>
  some v3) (
  bnd (F.conv .u64 x0) fun v4=>
  some v4)
noncomputable def glazierref01_times_l1 (fl:Nat):Nat -> Int -> Int -> Int -> Int -> Int -> Int -> Int -> Option (Int × Int × Int × Int × Unit)
 | 0,_,_,_,_,_,_,_=>none
 | n + 1,x0,x1,x2,x3,x4,x5,x6=>
  bnd (F.ge x6 0) fun v7=>
  bite v7 (
   bnd (F.mul .u64 x4 2) fun v8=>
   bnd (F.quo .u64 x5 9223372036854775808) fun v9=>
   bnd (F.add .u64 v8 v9) fun v10=>
   bnd (F.mul .u64 x5 2) fun v11=>
   bgd (F.nonneg x6) (
    bnd (F.shr .u64 x2 x6) fun v12=>
    bnd (F.rem v12 2) fun v13=>
    bnd (F.eq v13 1) fun v14=>
    bite v14 (
     bnd (F.add .u64 v11 x3) fun v15=>
     bnd (F.lt v15 v11) fun v16=>
     bite v16 (
      bnd (F.add .u64 v10 1) fun v17=>
      bnd (F.sub .i64 x6 1) fun v18=>
      glazierref01_times_l1 fl n x0 x1 x2 x3 v17 v15 v18) (
      bnd (F.sub .i64 x6 1) fun v19=>
      glazierref01_times_l1 fl n x0 x1 x2 x3 v10 v15 v19)) (
     bnd (F.sub .i64 x6 1) fun v20=>
     glazierref01_times_l1 fl n x0 x1 x2 x3 v10 v11 v20))) (
   some (x0,(x1,(x4,(x5,())))))
noncomputable def glazierref01_times (fl:Nat) (x0:Int) (x1:Int):Option (Int × Int × Bool):=
 obind (glazierref01_size x0) fun q2=>
 obind (glazierref01_size x1) fun q3=>
 obind (glazierref01_times_l1 fl fl x0 x1 q2 q3 0 0 63) fun q4=>
 bnd (F.lt q4.1 0) fun v5=>
 bnd (F.lt q4.2.1 0) fun v6=>
 bnd (F.bne v5 v6) fun v7=>
 bite v7 (
  bnd (F.gt q4.2.2.1 0) fun v8=>
  bite v8 (
   some (q4.2.2.1,(q4.2.2.2.1,true))) (
   bnd (F.gt q4.2.2.2.1 0) fun v9=>
   some (q4.2.2.1,(q4.2.2.2.1,v9)))) (
  some (q4.2.2.1,(q4.2.2.2.1,false)))
noncomputable def glazierref01_parts_l1 (fl:Nat):Nat -> Int -> Int -> Int -> Int -> Int -> Int -> Int -> Bool -> Option (Int × Int × Int × Unit)
 | 0,_,_,_,_,_,_,_,_=>none
 | n + 1,x0,x1,x2,x3,x4,x5,x6,x7=>
  bnd (F.ge x4 0) fun v8=>
  bite v8 (
   bnd (F.gt x4 63) fun v9=>
   bite v9 (
    bnd (F.sub .i64 x4 64) fun v10=>
    bgd (F.nonneg v10) (
     bnd (F.shr .u64 x5 v10) fun v11=>
     bnd (F.rem v11 2) fun v12=>
     bnd (F.ge x3 9223372036854775808) fun v13=>
     bnd (F.mul .u64 x3 2) fun v14=>
     bnd (F.add .u64 v14 v12) fun v15=>
     bnd (F.mul .u64 x1 2) fun v16=>
     bnd (F.quo .u64 x2 9223372036854775808) fun v17=>
     bnd (F.add .u64 v16 v17) fun v18=>
     bnd (F.mul .u64 x2 2) fun v19=>
     bite v13 (
      bnd (F.sub .u64 v15 x0) fun v20=>
      bnd (F.add .u64 v19 1) fun v21=>
      bnd (F.sub .i64 x4 1) fun v22=>
      glazierref01_parts_l1 fl n x0 v18 v21 v20 v22 x5 x6 x7) (
      bnd (F.ge v15 x0) fun v23=>
      bite v23 (
       bnd (F.sub .u64 v15 x0) fun v24=>
       bnd (F.add .u64 v19 1) fun v25=>
       bnd (F.sub .i64 x4 1) fun v26=>
       glazierref01_parts_l1 fl n x0 v18 v25 v24 v26 x5 x6 x7) (
       bnd (F.sub .i64 x4 1) fun v27=>
       glazierref01_parts_l1 fl n x0 v18 v19 v15 v27 x5 x6 x7)))) (
    bgd (F.nonneg x4) (
     bnd (F.shr .u64 x6 x4) fun v28=>
     bnd (F.rem v28 2) fun v29=>
     bnd (F.ge x3 9223372036854775808) fun v30=>
     bnd (F.mul .u64 x3 2) fun v31=>
     bnd (F.add .u64 v31 v29) fun v32=>
     bnd (F.mul .u64 x1 2) fun v33=>
     bnd (F.quo .u64 x2 9223372036854775808) fun v34=>
     bnd (F.add .u64 v33 v34) fun v35=>
     bnd (F.mul .u64 x2 2) fun v36=>
     bite v30 (
      bnd (F.sub .u64 v32 x0) fun v37=>
      bnd (F.add .u64 v36 1) fun v38=>
      bnd (F.sub .i64 x4 1) fun v39=>
      glazierref01_parts_l1 fl n x0 v35 v38 v37 v39 x5 x6 x7) (
      bnd (F.ge v32 x0) fun v40=>
      bite v40 (
       bnd (F.sub .u64 v32 x0) fun v41=>
       bnd (F.add .u64 v36 1) fun v42=>
       bnd (F.sub .i64 x4 1) fun v43=>
       glazierref01_parts_l1 fl n x0 v35 v42 v41 v43 x5 x6 x7) (
       bnd (F.sub .i64 x4 1) fun v44=>
       glazierref01_parts_l1 fl n x0 v35 v36 v32 v44 x5 x6 x7))))) (
   some (x1,(x2,(x3,()))))
noncomputable def glazierref01_parts (fl:Nat) (x0:Int × Int × Bool) (x1:Int):Option (Int × Int × Int):=
 obind (glazierref01_parts_l1 fl fl x1 0 0 0 127 x0.1 x0.2.1 x0.2.2) fun q2=>
 some (q2.1,(q2.2.1,q2.2.2.1))
noncomputable def glazierref01_told (x0:Int) (x1:Int) (x2:Bool):Option (Int × Int):=
 bite x2 (
  bnd (F.gt x0 0) fun v3=>
  bite v3 (
   some (0,2)) (
   bnd (F.gt x1 9223372036854775808) fun v4=>
   bite v4 (
    some (0,2)) (
    bite x2 (
     bnd (F.sub .u64 0 x1) fun v5=>
     bnd (F.conv .i64 v5) fun v6=>
     some (v6,0)) (
     bnd (F.conv .i64 x1) fun v7=>
     some (v7,0))))) (
  bnd (F.gt x0 0) fun v8=>
  bite v8 (
   some (0,2)) (
   bnd (F.gt x1 9223372036854775807) fun v9=>
   bite v9 (
    some (0,2)) (
    bite x2 (
     bnd (F.sub .u64 0 x1) fun v10=>
     bnd (F.conv .i64 v10) fun v11=>
     some (v11,0)) (
     bnd (F.conv .i64 x1) fun v12=>
     some (v12,0)))))
noncomputable def glazierref01_MulDiv (fl:Nat) (x0:Int) (x1:Int) (x2:Int):Option (Int × Int):=
 bnd (F.eq x2 0) fun v3=>
 bite v3 (
  some (0,3)) (
  obind (glazierref01_times fl x0 x1) fun q4=>
  bnd (F.lt x2 0) fun v5=>
  bnd (F.bne q4.2.2 v5) fun v6=>
  bite v6 (
   bnd (F.gt q4.1 0) fun v7=>
   bite v7 (
    obind (glazierref01_size x2) fun q8=>
    obind (glazierref01_parts fl q4 q8) fun q9=>
    bnd (F.gt q9.2.2 0) fun v10=>
    bite v10 (
     bnd (F.add .u64 q9.2.1 1) fun v11=>
     bnd (F.eq v11 0) fun v12=>
     bite v12 (
      bnd (F.add .u64 q9.1 1) fun v13=>
      obind (glazierref01_told v13 v11 true) fun q14=>
      some q14) (
      obind (glazierref01_told q9.1 v11 true) fun q15=>
      some q15)) (
     obind (glazierref01_told q9.1 q9.2.1 true) fun q16=>
     some q16)) (
    bnd (F.gt q4.2.1 0) fun v17=>
    obind (glazierref01_size x2) fun q18=>
    obind (glazierref01_parts fl q4 q18) fun q19=>
    bite v17 (
     bnd (F.gt q19.2.2 0) fun v20=>
     bite v20 (
      bnd (F.add .u64 q19.2.1 1) fun v21=>
      bnd (F.eq v21 0) fun v22=>
      bite v22 (
       bnd (F.add .u64 q19.1 1) fun v23=>
       obind (glazierref01_told v23 v21 v17) fun q24=>
       some q24) (
       obind (glazierref01_told q19.1 v21 v17) fun q25=>
       some q25)) (
      obind (glazierref01_told q19.1 q19.2.1 v17) fun q26=>
      some q26)) (
     obind (glazierref01_told q19.1 q19.2.1 v17) fun q27=>
     some q27))) (
   obind (glazierref01_size x2) fun q28=>
   obind (glazierref01_parts fl q4 q28) fun q29=>
   obind (glazierref01_told q29.1 q29.2.1 false) fun q30=>
   some q30))
noncomputable def glazierref01_Floor (fl:Nat) (x0:Int) (x1:Int):Option (Int × Int):=
 obind (glazierref01_MulDiv fl x0 1 x1) fun q2=>
 some q2
noncomputable def glazierref01_Down (fl:Nat) (x0:Int) (x1:Int):Option (Int):=
 obind (glazierref01_Floor fl x0 x1) fun q2=>
 some q2.1
noncomputable def glazierref11_Texel (x0:Int × Int × List (Int × Int × Int × Int)) (x1:Int) (x2:Int):Option (Int × Int × Int × Int):=
 obind (glazierref11_Right x0) fun q3=>
 bnd (F.not q3) fun v4=>
 bite v4 (
  some (0,(0,(0,0)))) (
  obind (glazierref11_wrap x2 x0.2.1) fun q5=>
  bnd (F.mul .i64 q5 x0.1) fun v6=>
  obind (glazierref11_wrap x1 x0.1) fun q7=>
  bnd (F.add .i64 v6 q7) fun v8=>
  obind (F.get x0.2.2 v8) fun q9=>
  some q9)
noncomputable def glazierref11_Nearest (fl:Nat) (x0:Int × Int × List (Int × Int × Int × Int)) (x1:Int) (x2:Int):Option (Int × Int × Int × Int):=
 obind (glazierref01_Down fl x1 16) fun q3=>
 obind (glazierref01_Down fl x2 16) fun q4=>
 obind (glazierref11_Texel x0 q3 q4) fun q5=>
 some q5
noncomputable def glazierref13_bits_l1 (fl:Nat):Nat -> Bool -> Int -> Int -> Int -> Int -> Option (Int × Unit)
 | 0,_,_,_,_,_=>none
 | n + 1,x0,x1,x2,x3,x4=>
  bnd (F.lt x4 32) fun v5=>
  bite v5 (
   bgd (F.nonneg x4) (
    bnd (F.shr .u64 x2 x4) fun v6=>
    bnd (F.rem v6 2) fun v7=>
    bnd (F.eq v7 1) fun v8=>
    bgd (F.nonneg x4) (
     bnd (F.shr .u64 x3 x4) fun v9=>
     bnd (F.rem v9 2) fun v10=>
     bnd (F.eq v10 1) fun v11=>
     bite x0 (
      bite v8 (
       bite v11 (
        bgd (F.nonneg x4) (
         bnd (F.shl .i64 1 x4) fun v12=>
         bnd (F.add .i64 x1 v12) fun v13=>
         bnd (F.add .i64 x4 1) fun v14=>
         glazierref13_bits_l1 fl n x0 v13 x2 x3 v14)) (
        bnd (F.not x0) fun v15=>
        bite v15 (
         bite v8 (
          bgd (F.nonneg x4) (
           bnd (F.shl .i64 1 x4) fun v16=>
           bnd (F.add .i64 x1 v16) fun v17=>
           bnd (F.add .i64 x4 1) fun v18=>
           glazierref13_bits_l1 fl n x0 v17 x2 x3 v18)) (
          bite v11 (
           bgd (F.nonneg x4) (
            bnd (F.shl .i64 1 x4) fun v19=>
            bnd (F.add .i64 x1 v19) fun v20=>
            bnd (F.add .i64 x4 1) fun v21=>
            glazierref13_bits_l1 fl n x0 v20 x2 x3 v21)) (
           bnd (F.add .i64 x4 1) fun v22=>
           glazierref13_bits_l1 fl n x0 x1 x2 x3 v22))) (
         bnd (F.add .i64 x4 1) fun v23=>
         glazierref13_bits_l1 fl n x0 x1 x2 x3 v23))) (
       bnd (F.not x0) fun v24=>
       bite v24 (
        bite v8 (
         bgd (F.nonneg x4) (
          bnd (F.shl .i64 1 x4) fun v25=>
          bnd (F.add .i64 x1 v25) fun v26=>
          bnd (F.add .i64 x4 1) fun v27=>
          glazierref13_bits_l1 fl n x0 v26 x2 x3 v27)) (
         bite v11 (
          bgd (F.nonneg x4) (
           bnd (F.shl .i64 1 x4) fun v28=>
           bnd (F.add .i64 x1 v28) fun v29=>
           bnd (F.add .i64 x4 1) fun v30=>
           glazierref13_bits_l1 fl n x0 v29 x2 x3 v30)) (
          bnd (F.add .i64 x4 1) fun v31=>
          glazierref13_bits_l1 fl n x0 x1 x2 x3 v31))) (
        bnd (F.add .i64 x4 1) fun v32=>
        glazierref13_bits_l1 fl n x0 x1 x2 x3 v32))) (
      bnd (F.not x0) fun v33=>
      bite v33 (
       bite v8 (
        bgd (F.nonneg x4) (
         bnd (F.shl .i64 1 x4) fun v34=>
         bnd (F.add .i64 x1 v34) fun v35=>
         bnd (F.add .i64 x4 1) fun v36=>
         glazierref13_bits_l1 fl n x0 v35 x2 x3 v36)) (
        bite v11 (
         bgd (F.nonneg x4) (
          bnd (F.shl .i64 1 x4) fun v37=>
          bnd (F.add .i64 x1 v37) fun v38=>
          bnd (F.add .i64 x4 1) fun v39=>
          glazierref13_bits_l1 fl n x0 v38 x2 x3 v39)) (
         bnd (F.add .i64 x4 1) fun v40=>
         glazierref13_bits_l1 fl n x0 x1 x2 x3 v40))) (
       bnd (F.add .i64 x4 1) fun v41=>
       glazierref13_bits_l1 fl n x0 x1 x2 x3 v41))))) (
   some (x1,()))
noncomputable def glazierref13_bits (fl:Nat) (x0:Int) (x1:Int) (x2:Bool):Option (Int):=
 bnd (F.conv .u64 x0) fun v3=>
 bnd (F.rem v3 4294967296) fun v4=>
 bnd (F.conv .u64 x1) fun v5=>
 bnd (F.rem v5 4294967296) fun v6=>
 obind (glazierref13_bits_l1 fl fl x2 0 v4 v6 0) fun q7=>
 obind (glazierref13_Wrap q7.1) fun q8=>
 some q8
noncomputable def glazierref13_value (fl:Nat) (x0:Int × Int × Int × Int × Int) (x1:Int) (x2:Int):Option (Int):=
 bnd (F.eq x0.1 0) fun v3=>
 bite v3 (
  some x0.2.2.2.2) (
  bnd (F.eq x0.1 1) fun v4=>
  bite v4 (
   some x1) (
   bnd (F.eq x0.1 2) fun v5=>
   bite v5 (
    bnd (F.add .i64 x1 x2) fun v6=>
    obind (glazierref13_Wrap v6) fun q7=>
    some q7) (
    bnd (F.eq x0.1 3) fun v8=>
    bite v8 (
     bnd (F.sub .i64 x1 x2) fun v9=>
     obind (glazierref13_Wrap v9) fun q10=>
     some q10) (
     bnd (F.eq x0.1 4) fun v11=>
     bite v11 (
      bnd (F.mul .i64 x1 x2) fun v12=>
      obind (glazierref01_Down fl v12 256) fun q13=>
      obind (glazierref13_Wrap q13) fun q14=>
      some q14) (
      bnd (F.eq x0.1 5) fun v15=>
      bite v15 (
       bnd (F.min x1 x2) fun v16=>
       some v16) (
       bnd (F.eq x0.1 6) fun v17=>
       bite v17 (
        bnd (F.max x1 x2) fun v18=>
        some v18) (
        bnd (F.eq x0.1 7) fun v19=>
        bite v19 (
         obind (glazierref13_bits fl x1 x2 true) fun q20=>
         some q20) (
         bnd (F.eq x0.1 8) fun v21=>
         bite v21 (
          obind (glazierref13_bits fl x1 x2 false) fun q22=>
          some q22) (
          bnd (F.eq x0.1 9) fun v23=>
          bite v23 (
           bgd (F.nonneg x0.2.2.2.2) (
            bnd (F.shl .i64 1 x0.2.2.2.2) fun v24=>
            bnd (F.mul .i64 x1 v24) fun v25=>
            obind (glazierref13_Wrap v25) fun q26=>
            some q26)) (
           bnd (F.eq x0.1 10) fun v27=>
           bite v27 (
            bgd (F.nonneg x0.2.2.2.2) (
             bnd (F.shl .i64 1 x0.2.2.2.2) fun v28=>
             obind (glazierref01_Down fl x1 v28) fun q29=>
             some q29)) (
            bnd (F.eq x0.1 11) fun v30=>
            bite v30 (
             bnd (F.lt x1 x2) fun v31=>
             bite v31 (
              some 1) (
              some 0)) (
             some 0))))))))))))
noncomputable def glazierref02_mix (x0:Int) (x1:Int) (x2:Int):Option (Int):=
 bnd (F.conv .i64 x0) fun v3=>
 bnd (F.sub .i64 256 x2) fun v4=>
 bnd (F.mul .i64 v3 v4) fun v5=>
 bnd (F.conv .i64 x1) fun v6=>
 bnd (F.mul .i64 v6 x2) fun v7=>
 bnd (F.add .i64 v5 v7) fun v8=>
 bnd (F.add .i64 v8 128) fun v9=>
 bnd (F.quo .i64 v9 256) fun v10=>
 bnd (F.conv .u8 v10) fun v11=>
 some v11
noncomputable def glazierref02_Mix (x0:Int × Int × Int × Int) (x1:Int × Int × Int × Int) (x2:Int):Option (Int × Int × Int × Int):=
 bnd (F.lt x2 0) fun v3=>
 bite v3 (
  obind (glazierref02_mix x0.1 x1.1 0) fun q4=>
  obind (glazierref02_mix x0.2.1 x1.2.1 0) fun q5=>
  obind (glazierref02_mix x0.2.2.1 x1.2.2.1 0) fun q6=>
  obind (glazierref02_mix x0.2.2.2 x1.2.2.2 0) fun q7=>
  some (q4,(q5,(q6,q7)))) (
  bnd (F.gt x2 256) fun v8=>
  bite v8 (
   obind (glazierref02_mix x0.1 x1.1 256) fun q9=>
   obind (glazierref02_mix x0.2.1 x1.2.1 256) fun q10=>
   obind (glazierref02_mix x0.2.2.1 x1.2.2.1 256) fun q11=>
   obind (glazierref02_mix x0.2.2.2 x1.2.2.2 256) fun q12=>
   some (q9,(q10,(q11,q12)))) (
   obind (glazierref02_mix x0.1 x1.1 x2) fun q13=>
   obind (glazierref02_mix x0.2.1 x1.2.1 x2) fun q14=>
   obind (glazierref02_mix x0.2.2.1 x1.2.2.1 x2) fun q15=>
   obind (glazierref02_mix x0.2.2.2 x1.2.2.2 x2) fun q16=>
   some (q13,(q14,(q15,q16)))))
noncomputable def glazierref11_Smooth (fl:Nat) (x0:Int × Int × List (Int × Int × Int × Int)) (x1:Int) (x2:Int):Option (Int × Int × Int × Int):=
 bnd (F.sub .i64 x1 8) fun v3=>
 obind (glazierref01_Down fl v3 16) fun q4=>
 bnd (F.sub .i64 x2 8) fun v5=>
 obind (glazierref01_Down fl v5 16) fun q6=>
 bnd (F.sub .i64 x1 8) fun v7=>
 obind (glazierref11_wrap v7 16) fun q8=>
 bnd (F.mul .i64 16 q8) fun v9=>
 bnd (F.sub .i64 x2 8) fun v10=>
 obind (glazierref11_wrap v10 16) fun q11=>
 bnd (F.mul .i64 16 q11) fun v12=>
 obind (glazierref11_Texel x0 q4 q6) fun q13=>
 bnd (F.add .i64 q4 1) fun v14=>
 obind (glazierref11_Texel x0 v14 q6) fun q15=>
 obind (glazierref02_Mix q13 q15 v9) fun q16=>
 bnd (F.add .i64 q6 1) fun v17=>
 obind (glazierref11_Texel x0 q4 v17) fun q18=>
 bnd (F.add .i64 q4 1) fun v19=>
 bnd (F.add .i64 q6 1) fun v20=>
 obind (glazierref11_Texel x0 v19 v20) fun q21=>
 obind (glazierref02_Mix q18 q21 v9) fun q22=>
 obind (glazierref02_Mix q16 q22 v12) fun q23=>
 some q23
noncomputable def glazierref13_Run_l1 (fl:Nat):Nat -> (List (Int × Int × Int × Int × Int)) -> Int -> Int -> Int -> Int -> (List (Int × Int × Int × Int)) -> Int -> Int -> Int -> Int -> Int -> Int -> Int -> Int -> Option (Int × Int × Int × Int × Int × Int × Int × Int × Int × Unit)
 | 0,_,_,_,_,_,_,_,_,_,_,_,_,_,_=>none
 | n + 1,x0,x1,x2,x3,x4,x5,x6,x7,x8,x9,x10,x11,x12,x13=>
  bnd (F.len x0) fun v14=>
  bnd (F.lt x2 v14) fun v15=>
  bite v15 (
   obind (F.get x0 x2) fun q16=>
   bgd (F.within q16.2.2.1 8) (
    obind (F.get [x6,x7,x8,x9,x10,x11,x12,x13] q16.2.2.1) fun q17=>
    bgd (F.within q16.2.2.2.1 8) (
     obind (F.get [x6,x7,x8,x9,x10,x11,x12,x13] q16.2.2.2.1) fun q18=>
     bnd (F.add .i64 x1 1) fun v19=>
     bnd (F.add .i64 x2 1) fun v20=>
     bnd (F.eq q16.1 12) fun v21=>
     bite v21 (
      bnd (F.ne q17 0) fun v22=>
      bite v22 (
       obind (glazierref12_Target q16 x2) fun q23=>
       glazierref13_Run_l1 fl n x0 v19 q23 x3 x4 x5 x6 x7 x8 x9 x10 x11 x12 x13) (
       glazierref13_Run_l1 fl n x0 v19 v20 x3 x4 x5 x6 x7 x8 x9 x10 x11 x12 x13)) (
      bnd (F.eq q16.1 13) fun v24=>
      bite v24 (
       bite v24 (
        obind (glazierref11_Nearest fl (x3,(x4,x5)) q17 q18) fun q25=>
        bnd (F.eq q16.1 14) fun v26=>
        bite v26 (
         obind (glazierref11_Smooth fl (x3,(x4,x5)) q17 q18) fun q27=>
         bnd (F.conv .i64 q27.1) fun v28=>
         bgd (F.within q16.2.1 8) (
          bnd (F.add .u8 q16.2.1 1) fun v29=>
          bnd (F.conv .i64 q27.2.1) fun v30=>
          bgd (F.within v29 8) (
           bnd (F.add .u8 q16.2.1 2) fun v31=>
           bnd (F.conv .i64 q27.2.2.1) fun v32=>
           bgd (F.within v31 8) (
            bnd (F.add .u8 q16.2.1 3) fun v33=>
            bnd (F.conv .i64 q27.2.2.2) fun v34=>
            bgd (F.within v33 8) (
             glazierref13_Run_l1 fl n x0 v19 v20 x3 x4 x5 (F.pick v33 0 v34 (F.pick v31 0 v32 (F.pick v29 0 v30 (F.pick q16.2.1 0 v28 x6)))) (F.pick v33 1 v34 (F.pick v31 1 v32 (F.pick v29 1 v30 (F.pick q16.2.1 1 v28 x7)))) (F.pick v33 2 v34 (F.pick v31 2 v32 (F.pick v29 2 v30 (F.pick q16.2.1 2 v28 x8)))) (F.pick v33 3 v34 (F.pick v31 3 v32 (F.pick v29 3 v30 (F.pick q16.2.1 3 v28 x9)))) (F.pick v33 4 v34 (F.pick v31 4 v32 (F.pick v29 4 v30 (F.pick q16.2.1 4 v28 x10)))) (F.pick v33 5 v34 (F.pick v31 5 v32 (F.pick v29 5 v30 (F.pick q16.2.1 5 v28 x11)))) (F.pick v33 6 v34 (F.pick v31 6 v32 (F.pick v29 6 v30 (F.pick q16.2.1 6 v28 x12)))) (F.pick v33 7 v34 (F.pick v31 7 v32 (F.pick v29 7 v30 (F.pick q16.2.1 7 v28 x13))))))))) (
         bnd (F.conv .i64 q25.1) fun v35=>
         bgd (F.within q16.2.1 8) (
          bnd (F.add .u8 q16.2.1 1) fun v36=>
          bnd (F.conv .i64 q25.2.1) fun v37=>
          bgd (F.within v36 8) (
           bnd (F.add .u8 q16.2.1 2) fun v38=>
           bnd (F.conv .i64 q25.2.2.1) fun v39=>
           bgd (F.within v38 8) (
            bnd (F.add .u8 q16.2.1 3) fun v40=>
            bnd (F.conv .i64 q25.2.2.2) fun v41=>
            bgd (F.within v40 8) (
             glazierref13_Run_l1 fl n x0 v19 v20 x3 x4 x5 (F.pick v40 0 v41 (F.pick v38 0 v39 (F.pick v36 0 v37 (F.pick q16.2.1 0 v35 x6)))) (F.pick v40 1 v41 (F.pick v38 1 v39 (F.pick v36 1 v37 (F.pick q16.2.1 1 v35 x7)))) (F.pick v40 2 v41 (F.pick v38 2 v39 (F.pick v36 2 v37 (F.pick q16.2.1 2 v35 x8)))) (F.pick v40 3 v41 (F.pick v38 3 v39 (F.pick v36 3 v37 (F.pick q16.2.1 3 v35 x9)))) (F.pick v40 4 v41 (F.pick v38 4 v39 (F.pick v36 4 v37 (F.pick q16.2.1 4 v35 x10)))) (F.pick v40 5 v41 (F.pick v38 5 v39 (F.pick v36 5 v37 (F.pick q16.2.1 5 v35 x11)))) (F.pick v40 6 v41 (F.pick v38 6 v39 (F.pick v36 6 v37 (F.pick q16.2.1 6 v35 x12)))) (F.pick v40 7 v41 (F.pick v38 7 v39 (F.pick v36 7 v37 (F.pick q16.2.1 7 v35 x13)))))))))) (
        obind (glazierref13_value fl q16 q17 q18) fun q42=>
        bgd (F.within q16.2.1 8) (
         glazierref13_Run_l1 fl n x0 v19 v20 x3 x4 x5 (F.pick q16.2.1 0 q42 x6) (F.pick q16.2.1 1 q42 x7) (F.pick q16.2.1 2 q42 x8) (F.pick q16.2.1 3 q42 x9) (F.pick q16.2.1 4 q42 x10) (F.pick q16.2.1 5 q42 x11) (F.pick q16.2.1 6 q42 x12) (F.pick q16.2.1 7 q42 x13)))) (
       bnd (F.eq q16.1 14) fun v43=>
       bite v43 (
        obind (glazierref11_Nearest fl (x3,(x4,x5)) q17 q18) fun q44=>
        bnd (F.eq q16.1 14) fun v45=>
        bite v45 (
         obind (glazierref11_Smooth fl (x3,(x4,x5)) q17 q18) fun q46=>
         bnd (F.conv .i64 q46.1) fun v47=>
         bgd (F.within q16.2.1 8) (
          bnd (F.add .u8 q16.2.1 1) fun v48=>
          bnd (F.conv .i64 q46.2.1) fun v49=>
          bgd (F.within v48 8) (
           bnd (F.add .u8 q16.2.1 2) fun v50=>
           bnd (F.conv .i64 q46.2.2.1) fun v51=>
           bgd (F.within v50 8) (
            bnd (F.add .u8 q16.2.1 3) fun v52=>
            bnd (F.conv .i64 q46.2.2.2) fun v53=>
            bgd (F.within v52 8) (
             glazierref13_Run_l1 fl n x0 v19 v20 x3 x4 x5 (F.pick v52 0 v53 (F.pick v50 0 v51 (F.pick v48 0 v49 (F.pick q16.2.1 0 v47 x6)))) (F.pick v52 1 v53 (F.pick v50 1 v51 (F.pick v48 1 v49 (F.pick q16.2.1 1 v47 x7)))) (F.pick v52 2 v53 (F.pick v50 2 v51 (F.pick v48 2 v49 (F.pick q16.2.1 2 v47 x8)))) (F.pick v52 3 v53 (F.pick v50 3 v51 (F.pick v48 3 v49 (F.pick q16.2.1 3 v47 x9)))) (F.pick v52 4 v53 (F.pick v50 4 v51 (F.pick v48 4 v49 (F.pick q16.2.1 4 v47 x10)))) (F.pick v52 5 v53 (F.pick v50 5 v51 (F.pick v48 5 v49 (F.pick q16.2.1 5 v47 x11)))) (F.pick v52 6 v53 (F.pick v50 6 v51 (F.pick v48 6 v49 (F.pick q16.2.1 6 v47 x12)))) (F.pick v52 7 v53 (F.pick v50 7 v51 (F.pick v48 7 v49 (F.pick q16.2.1 7 v47 x13))))))))) (
         bnd (F.conv .i64 q44.1) fun v54=>
         bgd (F.within q16.2.1 8) (
          bnd (F.add .u8 q16.2.1 1) fun v55=>
          bnd (F.conv .i64 q44.2.1) fun v56=>
          bgd (F.within v55 8) (
           bnd (F.add .u8 q16.2.1 2) fun v57=>
           bnd (F.conv .i64 q44.2.2.1) fun v58=>
           bgd (F.within v57 8) (
            bnd (F.add .u8 q16.2.1 3) fun v59=>
            bnd (F.conv .i64 q44.2.2.2) fun v60=>
            bgd (F.within v59 8) (
             glazierref13_Run_l1 fl n x0 v19 v20 x3 x4 x5 (F.pick v59 0 v60 (F.pick v57 0 v58 (F.pick v55 0 v56 (F.pick q16.2.1 0 v54 x6)))) (F.pick v59 1 v60 (F.pick v57 1 v58 (F.pick v55 1 v56 (F.pick q16.2.1 1 v54 x7)))) (F.pick v59 2 v60 (F.pick v57 2 v58 (F.pick v55 2 v56 (F.pick q16.2.1 2 v54 x8)))) (F.pick v59 3 v60 (F.pick v57 3 v58 (F.pick v55 3 v56 (F.pick q16.2.1 3 v54 x9)))) (F.pick v59 4 v60 (F.pick v57 4 v58 (F.pick v55 4 v56 (F.pick q16.2.1 4 v54 x10)))) (F.pick v59 5 v60 (F.pick v57 5 v58 (F.pick v55 5 v56 (F.pick q16.2.1 5 v54 x11)))) (F.pick v59 6 v60 (F.pick v57 6 v58 (F.pick v55 6 v56 (F.pick q16.2.1 6 v54 x12)))) (F.pick v59 7 v60 (F.pick v57 7 v58 (F.pick v55 7 v56 (F.pick q16.2.1 7 v54 x13)))))))))) (
        obind (glazierref13_value fl q16 q17 q18) fun q61=>
        bgd (F.within q16.2.1 8) (
         glazierref13_Run_l1 fl n x0 v19 v20 x3 x4 x5 (F.pick q16.2.1 0 q61 x6) (F.pick q16.2.1 1 q61 x7) (F.pick q16.2.1 2 q61 x8) (F.pick q16.2.1 3 q61 x9) (F.pick q16.2.1 4 q61 x10) (F.pick q16.2.1 5 q61 x11) (F.pick q16.2.1 6 q61 x12) (F.pick q16.2.1 7 q61 x13)))))))) (
   some (x1,(x6,(x7,(x8,(x9,(x10,(x11,(x12,(x13,()))))))))))
noncomputable def glazierref13_Run (fl:Nat) (x0:List (Int × Int × Int × Int × Int)) (x1:Int × Int × List (Int × Int × Int × Int)) (x2:Int × Int × Int × Int × Int × Int × Int × Int):Option ((Int × Int × Int × Int × Int × Int × Int × Int) × Int × Int):=
 obind (glazierref12_Check fl x0) fun q3=>
 bnd (F.ne q3 0) fun v4=>
 bite v4 (
  some ((0,(0,(0,(0,(0,(0,(0,0))))))),(0,23))) (
  obind (glazierref12_Samples fl x0) fun q5=>
  obind (glazierref11_Right x1) fun q6=>
  bite q5 (
   bnd (F.not q6) fun v7=>
   bite v7 (
    some ((0,(0,(0,(0,(0,(0,(0,0))))))),(0,22))) (
    obind (glazierref13_Wrap x2.1) fun q8=>
    obind (glazierref13_Wrap x2.2.1) fun q9=>
    obind (glazierref13_Wrap x2.2.2.1) fun q10=>
    obind (glazierref13_Wrap x2.2.2.2.1) fun q11=>
    obind (glazierref13_Wrap x2.2.2.2.2.1) fun q12=>
    obind (glazierref13_Wrap x2.2.2.2.2.2.1) fun q13=>
    obind (glazierref13_Wrap x2.2.2.2.2.2.2.1) fun q14=>
    obind (glazierref13_Wrap x2.2.2.2.2.2.2.2) fun q15=>
    obind (glazierref13_Run_l1 fl fl x0 0 0 x1.1 x1.2.1 x1.2.2 q8 q9 q10 q11 q12 q13 q14 q15) fun q16=>
    some ((q16.2.1,(q16.2.2.1,(q16.2.2.2.1,(q16.2.2.2.2.1,(q16.2.2.2.2.2.1,(q16.2.2.2.2.2.2.1,(q16.2.2.2.2.2.2.2.1,q16.2.2.2.2.2.2.2.2.1))))))),(q16.1,0)))) (
   obind (glazierref13_Wrap x2.1) fun q17=>
   obind (glazierref13_Wrap x2.2.1) fun q18=>
   obind (glazierref13_Wrap x2.2.2.1) fun q19=>
   obind (glazierref13_Wrap x2.2.2.2.1) fun q20=>
   obind (glazierref13_Wrap x2.2.2.2.2.1) fun q21=>
   obind (glazierref13_Wrap x2.2.2.2.2.2.1) fun q22=>
   obind (glazierref13_Wrap x2.2.2.2.2.2.2.1) fun q23=>
   obind (glazierref13_Wrap x2.2.2.2.2.2.2.2) fun q24=>
   obind (glazierref13_Run_l1 fl fl x0 0 0 x1.1 x1.2.1 x1.2.2 q17 q18 q19 q20 q21 q22 q23 q24) fun q25=>
   some ((q25.2.1,(q25.2.2.1,(q25.2.2.2.1,(q25.2.2.2.2.1,(q25.2.2.2.2.2.1,(q25.2.2.2.2.2.2.1,(q25.2.2.2.2.2.2.2.1,q25.2.2.2.2.2.2.2.2.1))))))),(q25.1,0))))
noncomputable def glazierref01_Sat (x0:Int):Option (Int):=
 bnd (F.lt x0 0) fun v1=>
 bite v1 (
  some 0) (
  bnd (F.gt x0 255) fun v2=>
  bite v2 (
   some 255) (
   bnd (F.conv .u8 x0) fun v3=>
   some v3))
noncomputable def glazierref13_Shade (fl:Nat) (x0:List (Int × Int × Int × Int × Int)) (x1:Int × Int × List (Int × Int × Int × Int)) (x2:Int × Int × Int × Int) (x3:Int) (x4:Int):Option ((Int × Int × Int × Int) × Int × Int):=
 obind (glazierref13_Run fl x0 x1 (x2.1,(x2.2.1,(x2.2.2.1,(x2.2.2.2,(x3,(x4,(0,0)))))))) fun q5=>
 bnd (F.ne q5.2.2 0) fun v6=>
 bite v6 (
  some ((0,(0,(0,0))),(0,q5.2.2))) (
  obind (glazierref01_Sat q5.1.1) fun q7=>
  obind (glazierref01_Sat q5.1.2.1) fun q8=>
  obind (glazierref01_Sat q5.1.2.2.1) fun q9=>
  obind (glazierref01_Sat q5.1.2.2.2.1) fun q10=>
  obind (glazierref02_Pre (q7,(q8,(q9,q10)))) fun q11=>
  some (q11,(q5.2.1,0)))
noncomputable def glazierref02_Right (x0:Int × Int × Int × Int):Option (Bool):=
 bnd (F.le x0.1 x0.2.2.2) fun v1=>
 bite v1 (
  bnd (F.le x0.2.1 x0.2.2.2) fun v2=>
  bite v2 (
   bnd (F.le x0.2.2.1 x0.2.2.2) fun v3=>
   some v3) (
   some false)) (
  some false)
end Go.Proofs.Ytkacojopcajboaa.G
namespace Go.Proofs.Ytkacojopcajboaa.G
open Go Go.RowKit Go.Proofs.Ytkacojopcajboaa.M
theorem mask32 {x:Int} (h0:0 <= x) (h1:x <= 18446744073709551615):F.and .u64 x 4294967295 = x % 4294967296:=by
 obtain ⟨n,rfl⟩:=Int.eq_ofNat_of_zero_le h0;have e:BitVec.ofInt 64 4294967295 = BitVec.ofNat 64 (2 ^ 32 - 1):=by decide
 have k:((BitVec.toNat (BitVec.ofInt 64 (n:Int) &&& BitVec.ofInt 64 4294967295):Nat):Int) = (n:Int) % 4294967296:=by
  rw [e,BitVec.ofInt_natCast,BitVec.toNat_and,BitVec.toNat_ofNat,BitVec.toNat_ofNat,Nat.mod_eq_of_lt (show n < 2 ^ 64 by omega),Nat.mod_eq_of_lt (show 2 ^ 32 - 1 < 2 ^ 64 by decide),Nat.and_two_pow_sub_one_eq_mod]
  rfl
 show IntKind.wrap .u64 _ = _;rw [show ((BitVec.toNat (BitVec.ofInt (IntKind.bits .u64) (n:Int) &&& BitVec.ofInt (IntKind.bits .u64) 4294967295):Nat):Int) = (n:Int) % 4294967296 from k,wrapU (by omega) (by omega)]
theorem mul64_spec {a b:Int} (ha:0 <= a /\ a <= 18446744073709551615) (hb:0 <= b /\ b <= 18446744073709551615) (hp:a * b <= 9223372036854775807):bits_Mul64 a b = some (0,a * b):=by
 obtain ⟨A,hA⟩:∃ A,A = a / 4294967296:=⟨_,rfl⟩
 obtain ⟨B,hB⟩:∃ B,B = b / 4294967296:=⟨_,rfl⟩
 obtain ⟨x,hx⟩:∃ x,x = a % 4294967296:=⟨_,rfl⟩
 obtain ⟨y,hy⟩:∃ y,y = b % 4294967296:=⟨_,rfl⟩
 have ea:a = 4294967296 * A + x:=by omega
 have eb:b = 4294967296 * B + y:=by omega
 have e:a * b = 18446744073709551616 * (A * B) + 4294967296 * (A * y) + 4294967296 * (x * B) + x * y:=by
  rw [ea,eb];simp only [Int.mul_add,Int.add_mul,Int.mul_assoc,Int.mul_left_comm x,Int.mul_left_comm A];omega
 have p1:0 <= A * B:=Int.mul_nonneg (by omega) (by omega)
 have p2:0 <= A * y:=Int.mul_nonneg (by omega) (by omega)
 have p3:0 <= x * B:=Int.mul_nonneg (by omega) (by omega)
 have p4:0 <= x * y:=Int.mul_nonneg (by omega) (by omega)
 obtain ⟨p,hP⟩:∃ p,p = a * b:=⟨_,rfl⟩
 obtain ⟨P,h1⟩:∃ P,P = A * B:=⟨_,rfl⟩
 obtain ⟨Q,h2⟩:∃ P,P = A * y:=⟨_,rfl⟩
 obtain ⟨R,h3⟩:∃ P,P = x * B:=⟨_,rfl⟩
 obtain ⟨S,h4⟩:∃ P,P = x * y:=⟨_,rfl⟩
 rw [<- hP] at hp;rw [<- h1] at p1;rw [<- h2] at p2;rw [<- h3] at p3;rw [<- h4] at p4;rw [<- hP,<- h1,<- h2,<- h3,<- h4] at e;unfold bits_Mul64;simp only [bnd_eq,shrU32];rw [mask32 ha.1 ha.2,mask32 hb.1 hb.2,<- hx,<- hy,<- hA,<- hB];have m1:F.mul .u64 x y = S:=by rw [mulU (by omega),h4]
 have m2:F.mul .u64 A y = Q:=by rw [mulU (by omega),h2]
 have m3:F.mul .u64 x B = R:=by rw [mulU (by omega),h3]
 have m4:F.mul .u64 A B = P:=by rw [mulU (by omega),h1]
 have m5:F.mul .u64 a b = p:=by rw [mulU (by omega),hP]
 rw [m1,m2,m3,m4,m5,addU (a:=Q) (by omega),mask32 (x:=Q + S / 4294967296) (by omega) (by omega),addU (b:=R) (by omega),addU (a:=P) (by omega),addU (by omega),hP]
 have:P + (Q + S / 4294967296) / 4294967296 + ((Q + S / 4294967296) % 4294967296 + R) / 4294967296 = 0:=by omega
 rw [this]
theorem size_spec {a:Int} (h:-9223372036854775807 <= a /\ a <= 9223372036854775807):fixed_size a = some (a.natAbs:Int):=by
 unfold fixed_size;simp only [bnd_eq];rw [negI h,f_max,show max a (-a) = (a.natAbs:Int) by omega,convU (by omega)]
theorem fdiv_pos {p c q r:Int} (hc:0 < c) (h:p = c * q + r) (h0:0 <= r) (h1:r < c):Int.fdiv p c = q:=fdiv_at hc (by omega) (by omega)
theorem signed0 {n:Int} (h0:0 <= n) (h1:n <= 9223372036854775807):fixed_signed n false = some (n,0):=by
 unfold fixed_signed fixed_checked;simp only [bnd_eq,bite_f];rw [convI (by omega),le_t h1]
 rfl
theorem signed1 {n:Int} (h0:0 <= n) (h1:n <= 9223372036854775807):fixed_signed n true = some (-n,0):=by
 unfold fixed_signed fixed_checked;have hw:F.conv .i64 (F.neg .u64 n) = -n:=by
  simp only [F.conv,F.neg,IntKind.wrap,IntKind.bits,IntKind.signed]
  simp;split <;> omega
 simp only [bnd_eq,bite_t];rw [hw,le_t (by omega)]
 rfl
theorem div64_spec (fl:Nat) {p c:Int} (hp:0 <= p) (hp1:p <= 9223372036854775807) (hc:0 < c):bits_Div64 fl 0 p c = some (Int.tdiv p c,Int.tmod p c):=by
 have hq0:0 <= Int.tdiv p c:=Int.tdiv_nonneg hp (by omega)
 have hqp:Int.tdiv p c <= p:=Int.tdiv_le_self _ hp;unfold bits_Div64;simp only [bnd_eq];rw [eq_f (by omega),le_f hc,eq_t rfl,nz_t (by omega)]
 simp only [bite_f,bite_t,bgd_t];show some (IntKind.wrap .u64 (Int.tdiv p c),_) = _;rw [wrapU hq0 (by omega)]
 rfl
theorem mulDiv_spec (fl:Nat) {a b c:Int} (ha:-9223372036854775807 <= a /\ a <= 9223372036854775807) (hb:-9223372036854775807 <= b /\ b <= 9223372036854775807) (hp:-9223372036854775806 <= a * b /\ a * b <= 9223372036854775806) (hc:c ≠ 0) (hc1:-9223372036854775807 <= c /\ c <= 9223372036854775807) :
  fixed_MulDiv fl a b c = some (Int.fdiv (a * b) c,0):=by
 have hAB:((a.natAbs:Int)) * (b.natAbs:Int) = ((a * b).natAbs:Int):=by rw [Int.natAbs_mul]; rfl
 unfold fixed_MulDiv;simp only [bnd_eq];rw [eq_f hc,size_spec ha,size_spec hb,size_spec hc1];simp only [ob_some,bite_f];rw [mul64_spec (by omega) (by omega) (by rw [hAB]; omega),hAB]
 simp only [ob_some];obtain ⟨C,hC⟩:∃ C:Int,C = c.natAbs:=⟨_,rfl⟩
 obtain ⟨p,hP⟩:∃ p:Int,p = (a * b).natAbs:=⟨_,rfl⟩
 rw [<- hC,<- hP];have hC0:0 < C:=by omega
 rw [ge_f (by omega),div64_spec fl (by omega) (by omega) hC0]
 simp only [ob_some,bite_f];obtain ⟨q,hq⟩:∃ q,q = Int.tdiv p C:=⟨_,rfl⟩
 obtain ⟨r,hr⟩:∃ r,r = Int.tmod p C:=⟨_,rfl⟩
 have hp0:0 <= p:=by omega
 have hr0:0 <= r:=by rw [hr]; exact Int.tmod_nonneg _ hp0
 have hr1:r < C:=by rw [hr]; exact Int.tmod_lt_of_pos _ hC0
 have hpq:p = C * q + r:=by rw [hq,hr]; exact (Int.mul_tdiv_add_tmod p C).symm
 have hq0:0 <= q:=by rw [hq]; exact Int.tdiv_nonneg hp0 (by omega)
 have hqp:q <= p:=by rw [hq]; exact Int.tdiv_le_self _ hp0
 rw [<- hq,<- hr];have posC:(a * b = p /\ c = C) \/ (a * b = -p /\ c = -C) -> Int.fdiv (a * b) c = q:=fun h=>by
  rcases h with ⟨h1,h2⟩ | ⟨h1,h2⟩
  ·rw [h1,h2]; exact fdiv_pos hC0 hpq hr0 hr1
  ·rw [h1,h2,Int.neg_fdiv_neg]; exact fdiv_pos hC0 hpq hr0 hr1
 have neg0:r = 0 -> (a * b = -p /\ c = C) \/ (a * b = p /\ c = -C) -> Int.fdiv (a * b) c = -q:=fun hr0 h=>by
  have e:-p = C * (-q) + 0:=by rw [Int.mul_neg]; omega
  rcases h with ⟨h1,h2⟩ | ⟨h1,h2⟩
  ·rw [h1,h2]; exact fdiv_pos hC0 e (by omega) (by omega)
  ·rw [h1,h2,<- Int.neg_fdiv_neg,Int.neg_neg]; exact fdiv_pos hC0 e (by omega) (by omega)
 have neg1:0 < r -> (a * b = -p /\ c = C) \/ (a * b = p /\ c = -C) -> Int.fdiv (a * b) c = -(q + 1):=fun hr0 h=>by
  have e:-p = C * (-(q + 1)) + (C - r):=by rw [Int.mul_neg,Int.mul_add]; omega
  rcases h with ⟨h1,h2⟩ | ⟨h1,h2⟩
  ·rw [h1,h2]; exact fdiv_pos hC0 e (by omega) (by omega)
  ·rw [h1,h2,<- Int.neg_fdiv_neg,Int.neg_neg]; exact fdiv_pos hC0 e (by omega) (by omega)
 have fin:∀ sg:Bool,F.bne (F.bne (F.lt a 0) (F.lt b 0)) (F.lt c 0) = sg -> (sg = false -> (a * b = p /\ c = C) \/ (a * b = -p /\ c = -C)) -> (sg = true -> (a * b = -p /\ c = C) \/ (a * b = p /\ c = -C)) ->
   bite (F.bne (F.bne (F.lt a 0) (F.lt b 0)) (F.lt c 0))
    (bite (F.gt r 0) (bite (F.eq (F.add .u64 q 1) 0) (some (0,2)) (obind (fixed_signed (F.add .u64 q 1) (F.bne (F.bne (F.lt a 0) (F.lt b 0)) (F.lt c 0))) fun q=>some q))
     (obind (fixed_signed q (F.bne (F.bne (F.lt a 0) (F.lt b 0)) (F.lt c 0))) fun q=>some q))
    (obind (fixed_signed q (F.bne (F.bne (F.lt a 0) (F.lt b 0)) (F.lt c 0))) fun q=>some q) = some (Int.fdiv (a * b) c,(0:Int)):=fun sg hs h0 h1=>by
  rw [hs];cases sg with
  | false=>
   rw [bite_f,signed0 hq0 (by omega),posC (h0 rfl)]
   rfl
  | true=>
   rw [bite_t];by_cases hr2:r > 0
   ·rw [gt_t hr2,addU (by omega),eq_f (by omega),signed1 (by omega) (by omega),neg1 hr2 (h1 rfl)]
    rfl
   ·rw [gt_f (by omega),signed1 hq0 (by omega),neg0 (by omega) (h1 rfl)]
    rfl
 clear posC neg0 neg1 hpq hr hq;have hm1:0 <= a * b -> a * b = p:=by omega
 have hm2:a * b <= 0 -> a * b = -p:=by omega
 have hc1':0 <= c -> c = C:=by omega
 have hc2':c < 0 -> c = -C:=by omega
 have sab:(a < 0 /\ b < 0 -> 0 <= a * b) /\ (a < 0 /\ 0 <= b -> a * b <= 0) /\ (0 <= a /\ b < 0 -> a * b <= 0) /\ (0 <= a /\ 0 <= b -> 0 <= a * b):=by
  refine ⟨fun h=>Int.mul_nonneg_of_nonpos_of_nonpos (by omega) (by omega),fun h=>Int.mul_nonpos_of_nonpos_of_nonneg (by omega) h.2,fun h=>Int.mul_nonpos_of_nonneg_of_nonpos h.1 (by omega),fun h=>Int.mul_nonneg h.1 h.2⟩
 obtain ⟨s1,s2,s3,s4⟩:=sab;rcases Int.lt_or_le a 0 with k1 | k1 <;> rcases Int.lt_or_le b 0 with k2 | k2 <;> rcases Int.lt_or_le c 0 with k3 | k3
 ·exact fin true (by rw [lt_t k1,lt_t k2,lt_t k3]; rfl) (by simp) (fun _=>.inr ⟨hm1 (s1 ⟨k1,k2⟩),hc2' k3⟩)
 ·exact fin false (by rw [lt_t k1,lt_t k2,lt_f k3]; rfl) (fun _=>.inl ⟨hm1 (s1 ⟨k1,k2⟩),hc1' k3⟩) (by simp)
 ·exact fin false (by rw [lt_t k1,lt_f k2,lt_t k3]; rfl) (fun _=>.inr ⟨hm2 (s2 ⟨k1,k2⟩),hc2' k3⟩) (by simp)
 ·exact fin true (by rw [lt_t k1,lt_f k2,lt_f k3]; rfl) (by simp) (fun _=>.inl ⟨hm2 (s2 ⟨k1,k2⟩),hc1' k3⟩)
 ·exact fin false (by rw [lt_f k1,lt_t k2,lt_t k3]; rfl) (fun _=>.inr ⟨hm2 (s3 ⟨k1,k2⟩),hc2' k3⟩) (by simp)
 ·exact fin true (by rw [lt_f k1,lt_t k2,lt_f k3]; rfl) (by simp) (fun _=>.inl ⟨hm2 (s3 ⟨k1,k2⟩),hc1' k3⟩)
 ·exact fin true (by rw [lt_f k1,lt_f k2,lt_t k3]; rfl) (by simp) (fun _=>.inr ⟨hm1 (s4 ⟨k1,k2⟩),hc2' k3⟩)
 ·exact fin false (by rw [lt_f k1,lt_f k2,lt_f k3]; rfl) (fun _=>.inl ⟨hm1 (s4 ⟨k1,k2⟩),hc1' k3⟩) (by simp)
end Go.Proofs.Ytkacojopcajboaa.G
namespace Go.Proofs.Ytkacojopcajboaa.G
open Go Go.RowKit Go.Proofs.Ytkacojopcajboaa.M
theorem bit_half (x:Int) (k:Nat):x / 2 ^ k = 2 * (x / 2 ^ (k + 1)) + x / 2 ^ k % 2:=by
 rw [Int.pow_succ,<- Int.ediv_ediv_of_nonneg (by exact Int.le_of_lt (Int.pow_pos (by decide)))]
 omega
theorem shrU {x:Int} {k:Nat} (hk:k <= 64):F.shr .u64 x k = x / 2 ^ k:=by
 unfold F.shr;rw [Int.fdiv_eq_ediv_of_nonneg _ (Int.le_of_lt (Int.pow_pos (by decide)))]
 congr 2
 show min ((k:Int).toNat) 64 = k;omega
theorem quo63 {x:Int} (h0:0 <= x) (h1:x < 9223372036854775808):F.quo .u64 x 9223372036854775808 = 0:=by
 unfold F.quo;rw [Int.tdiv_eq_ediv_of_nonneg h0,Int.ediv_eq_zero_of_lt h0 h1];rfl
theorem rem2 {x:Int} (h0:0 <= x):F.rem x 2 = x % 2:=Int.tmod_eq_emod_of_nonneg h0
theorem shift_le {x:Int} {k:Nat} (h0:0 <= x):0 <= x / 2 ^ k /\ x / 2 ^ k <= x:=
 ⟨Int.ediv_nonneg h0 (Int.le_of_lt (Int.pow_pos (by decide))),Int.ediv_le_self _ h0⟩
theorem times_loop (fl:Nat) {a b x y:Int} (hx:0 <= x) (hy:0 <= y) (hp:x * y <= 9223372036854775806) (hy1:y <= 9223372036854775807):∀ (k n:Nat),k <= 64 -> k + 1 <= n -> glazierref01_times_l1 fl n a b x y 0 (x / 2 ^ k * y) ((k:Int) - 1) = some (a,(b,(0,(x * y,()))))
 | 0,0,_,h=>by omega
 | 0,n + 1,_,_=>by
  unfold glazierref01_times_l1;simp only [bnd_eq];rw [ge_f (by omega)]
  simp only [bite_f];rw [Int.pow_zero,Int.ediv_one]
 | k + 1,0,_,h=>by omega
 | k + 1,n + 1,hk,hn=>by
  have ih:=times_loop fl (a:=a) (b:=b) hx hy hp hy1 k n (by omega) (by omega)
  have e:=bit_half x k;obtain ⟨s0,s1⟩:=shift_le (k:=k + 1) hx;obtain ⟨t0,t1⟩:=shift_le (k:=k) hx;unfold glazierref01_times_l1;simp only [bnd_eq];rw [show ((k + 1:Nat):Int) - 1 = (k:Int) by omega,ge_t (by omega),bite_t,nn_t (by omega),bgd_t,shrU (by omega)]
  obtain ⟨q,hq⟩:∃ q,q = x / 2 ^ (k + 1):=⟨_,rfl⟩
  obtain ⟨z,hz⟩:∃ q,q = x / 2 ^ k:=⟨_,rfl⟩
  rw [<- hq,<- hz] at e;rw [<- hq] at s0 s1 ⊢;rw [<- hz] at t0 t1 ih ⊢;have hzy:z * y <= x * y:=Int.mul_le_mul_of_nonneg_right t1 hy;have hz0:0 <= z * y:=Int.mul_nonneg t0 hy;have hq0:0 <= q * y:=Int.mul_nonneg s0 hy;rw [rem2 t0];have hb2:z % 2 = 0 \/ z % 2 = 1:=by omega
  rcases hb2 with hb | hb
  ·rw [hb] at e ⊢;have ez:z * y = q * y * 2:=by rw [e,Int.add_zero,Int.mul_assoc,Int.mul_comm]
   rw [quo63 hq0 (by omega),mulU (a:=q * y) (by omega),eq_f (by decide),bite_f,subI (by omega)]
   rw [show F.add .u64 (F.mul .u64 0 2) 0 = 0 from rfl,<- ez];exact ih
  ·rw [hb] at e ⊢;have ez:z * y = q * y * 2 + y:=by rw [e,Int.add_mul,Int.one_mul,Int.mul_comm 2,Int.mul_assoc,Int.mul_comm 2,<- Int.mul_assoc]
   rw [quo63 hq0 (by omega),mulU (a:=q * y) (by omega),eq_t rfl,bite_t,addU (by omega),lt_f (by omega),bite_f,subI (by omega)]
   rw [show F.add .u64 (F.mul .u64 0 2) 0 = 0 from rfl,<- ez];exact ih
theorem parts_none (fl:Nat) {c lo:Int} {ng:Bool} (hc:0 < c) {r:Int × Int × Int × Unit}:∀ (k n:Nat),k <= 64 -> glazierref01_parts_l1 fl n c 0 0 0 63 0 lo ng = some r -> glazierref01_parts_l1 fl (n + k) c 0 0 0 (63 + (k:Int)) 0 lo ng = some r
 | 0,n,_,h=>h
 | k + 1,n,hk,h=>by
  have ih:=parts_none fl hc k n (by omega) h
  rw [show n + (k + 1) = (n + k) + 1 by omega]
  unfold glazierref01_parts_l1;simp only [bnd_eq]
  rw [ge_t (a:=63 + ((k + 1:Nat):Int)) (by omega),bite_t,gt_t (by omega),bite_t,subI (a:=63 + ((k + 1:Nat):Int)) (by omega),show 63 + ((k + 1:Nat):Int) - 64 = (k:Int) by omega,nn_t (by omega),bgd_t,shrU (by omega),Int.zero_ediv,show F.rem 0 2 = 0 from rfl,ge_f (a:=0) (b:=9223372036854775808) (by decide),bite_f,
   show F.add .u64 (F.mul .u64 0 2) 0 = 0 from rfl,ge_f (by omega),bite_f,show F.quo .u64 0 9223372036854775808 = 0 from rfl,show F.add .u64 (F.mul .u64 0 2) 0 = 0 from rfl,show F.mul .u64 0 2 = 0 from rfl,subI (by omega),show 63 + ((k + 1:Nat):Int) - 1 = 63 + (k:Int) by omega]
  exact ih
theorem parts_loop (fl:Nat) {c p hi:Int} {ng:Bool} (hc:0 < c) (hc1:c <= 9223372036854775807) (hp:0 <= p) (hp1:p <= 9223372036854775806):∀ (k n:Nat),k <= 64 -> k + 1 <= n -> glazierref01_parts_l1 fl n c 0 (p / 2 ^ k / c) (p / 2 ^ k % c) ((k:Int) - 1) hi p ng = some (0,(p / c,(p % c,())))
 | 0,0,_,h=>by omega
 | 0,n + 1,_,_=>by
  unfold glazierref01_parts_l1;simp only [bnd_eq];rw [ge_f (by omega)]
  simp only [bite_f];rw [Int.pow_zero,Int.ediv_one]
 | k + 1,0,_,h=>by omega
 | k + 1,n + 1,hk,hn=>by
  have ih:=parts_loop fl (hi:=hi) (ng:=ng) hc hc1 hp hp1 k n (by omega) (by omega)
  have e:=bit_half p k;obtain ⟨s0,s1⟩:=shift_le (k:=k + 1) hp;obtain ⟨t0,t1⟩:=shift_le (k:=k) hp;unfold glazierref01_parts_l1;simp only [bnd_eq];rw [show ((k + 1:Nat):Int) - 1 = (k:Int) by omega,ge_t (by omega),bite_t,gt_f (by omega),bite_f,nn_t (by omega),bgd_t,shrU (by omega)]
  obtain ⟨P,hP⟩:∃ q,q = p / 2 ^ (k + 1):=⟨_,rfl⟩
  obtain ⟨Z,hZ⟩:∃ q,q = p / 2 ^ k:=⟨_,rfl⟩
  rw [<- hP,<- hZ] at e;rw [<- hP] at s0 s1 ⊢;rw [<- hZ] at t0 t1 ih ⊢;rw [rem2 t0];obtain ⟨B,hB⟩:∃ B,B = Z % 2:=⟨_,rfl⟩
  have hB0:0 <= B /\ B <= 1:=by omega
  rw [<- hB] at e ⊢;clear hB;have d0:0 <= P / c:=Int.ediv_nonneg s0 (by omega)
  have d1:P / c <= P:=Int.ediv_le_self _ s0;have r0:=Int.emod_nonneg P (show c ≠ 0 by omega)
  have r1:=Int.emod_lt_of_pos P hc;have hdm:=Int.mul_ediv_add_emod P c;obtain ⟨Q,hQ⟩:∃ Q,Q = P / c:=⟨_,rfl⟩
  obtain ⟨R,hR⟩:∃ R,R = P % c:=⟨_,rfl⟩
  rw [<- hQ] at d0 d1 hdm ⊢;rw [<- hR] at r0 r1 hdm ⊢;rw [ge_f (by omega),bite_f,quo63 d0 (by omega),show F.add .u64 (F.mul .u64 0 2) 0 = 0 from rfl,mulU (a:=R) (by omega),addU (a:=R * 2) (by omega),mulU (a:=Q) (by omega)]
  have eZ:Z = c * (Q * 2) + (R * 2 + B):=by rw [e,<- hdm]; grind
  by_cases hge:c <= R * 2 + B
  ·rw [ge_t hge,bite_t,subU (by omega),addU (by omega),subI (by omega)]
   have h1:Z / c = Q * 2 + 1:=by
    rw [<- Int.fdiv_eq_ediv_of_nonneg _ (by omega)]
    exact fdiv_at hc (by rw [Int.mul_add]; omega) (by rw [Int.mul_add]; omega)
   have h2:Z % c = R * 2 + B - c:=by
    have:=Int.mul_ediv_add_emod Z c;rw [h1,Int.mul_add] at this;omega
   rw [h1,h2] at ih;exact ih
  ·rw [ge_f (by omega),bite_f,subI (by omega)]
   have h1:Z / c = Q * 2:=by
    rw [<- Int.fdiv_eq_ediv_of_nonneg _ (by omega)]
    exact fdiv_at hc (by omega) (by omega)
   have h2:Z % c = R * 2 + B:=by
    have:=Int.mul_ediv_add_emod Z c;rw [h1] at this;omega
   rw [h1,h2] at ih;exact ih
theorem ref_size {a:Int} (h:-9223372036854775807 <= a /\ a <= 9223372036854775807):glazierref01_size a = some (a.natAbs:Int):=by
 unfold glazierref01_size;simp only [bnd_eq];by_cases h0:a < 0
 ·rw [lt_t h0,bite_t];have:F.sub .u64 0 (F.conv .u64 a) = (a.natAbs:Int):=by
   simp only [F.sub,F.conv,IntKind.wrap,IntKind.bits,IntKind.signed]
   simp;omega
  rw [this]
 ·rw [lt_f (by omega),bite_f,convU (by omega)]
  congr 1
  omega
theorem ref_times {fl:Nat} (hfl:130 <= fl) {a b:Int} (ha:-9223372036854775807 <= a /\ a <= 9223372036854775807) (hb:-9223372036854775807 <= b /\ b <= 9223372036854775807) (hp:-9223372036854775806 <= a * b /\ a * b <= 9223372036854775806) :
  glazierref01_times fl a b = some (0,(((a * b).natAbs:Int),decide (a * b < 0))):=by
 have hAB:((a.natAbs:Int)) * (b.natAbs:Int) = ((a * b).natAbs:Int):=by rw [Int.natAbs_mul]; rfl
 unfold glazierref01_times;rw [ref_size ha,ref_size hb];simp only [ob_some,bnd_eq];have h:=times_loop fl (a:=a) (b:=b) (x:=(a.natAbs:Int)) (y:=(b.natAbs:Int)) (by omega) (by omega) (by rw [hAB]; omega) (by omega) 64 fl (by omega) (by omega)
 rw [show (a.natAbs:Int) / 2 ^ 64 = 0 from Int.ediv_eq_zero_of_lt (by omega) (by omega),Int.zero_mul,show ((64:Nat):Int) - 1 = 63 from rfl] at h
 rw [h,hAB];simp only [ob_some];have sab:(a < 0 /\ b < 0 -> 0 <= a * b) /\ (a < 0 /\ 0 <= b -> a * b <= 0) /\ (0 <= a /\ b < 0 -> a * b <= 0) /\ (0 <= a /\ 0 <= b -> 0 <= a * b):=by
  refine ⟨fun h=>Int.mul_nonneg_of_nonpos_of_nonpos (by omega) (by omega),fun h=>Int.mul_nonpos_of_nonpos_of_nonneg (by omega) h.2,fun h=>Int.mul_nonpos_of_nonneg_of_nonpos h.1 (by omega),fun h=>Int.mul_nonneg h.1 h.2⟩
 obtain ⟨s1,s2,s3,s4⟩:=sab;have neg:a * b <= 0 -> F.gt ((a * b).natAbs:Int) 0 = decide (a * b < 0):=fun h=>by
  by_cases hz:a * b < 0
  ·rw [gt_t (by omega),decide_eq_true hz]
  ·rw [gt_f (by omega),decide_eq_false hz]
 rcases Int.lt_or_le a 0 with k1 | k1 <;> rcases Int.lt_or_le b 0 with k2 | k2
 ·rw [lt_t k1,lt_t k2];have:=s1 ⟨k1,k2⟩;rw [decide_eq_false (show ¬ a * b < 0 by omega)]
  rfl
 ·rw [lt_t k1,lt_f k2,show F.bne true false = true from rfl,bite_t,gt_f (by decide),bite_f,neg (s2 ⟨k1,k2⟩)]
 ·rw [lt_f k1,lt_t k2,show F.bne false true = true from rfl,bite_t,gt_f (by decide),bite_f,neg (s3 ⟨k1,k2⟩)]
 ·rw [lt_f k1,lt_f k2];have:=s4 ⟨k1,k2⟩;rw [decide_eq_false (show ¬ a * b < 0 by omega)]
  rfl
theorem ref_parts {fl:Nat} (hfl:130 <= fl) {c p:Int} {ng:Bool} (hc:0 < c) (hc1:c <= 9223372036854775807) (hp:0 <= p) (hp1:p <= 9223372036854775806):glazierref01_parts fl (0,(p,ng)) c = some (0,(p / c,p % c)):=by
 unfold glazierref01_parts;have h:=parts_loop fl (hi:=0) (ng:=ng) hc hc1 hp hp1 64 (fl - 64) (by omega) (by omega)
 rw [show p / 2 ^ 64 = 0 from Int.ediv_eq_zero_of_lt hp (by omega),Int.zero_ediv,Int.zero_emod,show ((64:Nat):Int) - 1 = 63 from rfl] at h
 have h2:=parts_none fl hc 64 (fl - 64) (by omega) h
 rw [show fl - 64 + 64 = fl by omega,show (63:Int) + ((64:Nat):Int) = 127 from rfl] at h2
 dsimp only;rw [h2];rfl
theorem told0 {n:Int} (h0:0 <= n) (h1:n <= 9223372036854775807):glazierref01_told 0 n false = some (n,0):=by
 unfold glazierref01_told;simp only [bnd_eq,bite_f];rw [gt_f (by decide),bite_f,gt_f h1,bite_f,convI (by omega)]
theorem told1 {n:Int} (h0:0 <= n) (h1:n <= 9223372036854775807):glazierref01_told 0 n true = some (-n,0):=by
 unfold glazierref01_told;have hw:F.conv .i64 (F.sub .u64 0 n) = -n:=by
  simp only [F.conv,F.sub,IntKind.wrap,IntKind.bits,IntKind.signed]
  simp;split <;> omega
 rw [bite_t,bnd_eq,gt_f (by decide),bite_f,bnd_eq,gt_f (by omega),bite_f,bite_t,bnd_eq,bnd_eq,hw]
theorem ref_signs (m c:Int) (hc:c ≠ 0):(F.bne (decide (m < 0)) (F.lt c 0) = true /\ ((m = -(m.natAbs:Int) /\ c = (c.natAbs:Int)) \/ (m = (m.natAbs:Int) /\ c = -(c.natAbs:Int)))) \/
  (F.bne (decide (m < 0)) (F.lt c 0) = false /\ ((m = (m.natAbs:Int) /\ c = (c.natAbs:Int)) \/ (m = -(m.natAbs:Int) /\ c = -(c.natAbs:Int)))):=by
 rcases Int.lt_or_le m 0 with h1 | h1 <;> rcases Int.lt_or_le c 0 with h2 | h2
 ·exact .inr ⟨by rw [decide_eq_true h1,lt_t h2]; rfl,.inr ⟨by omega,by omega⟩⟩
 ·exact .inl ⟨by rw [decide_eq_true h1,lt_f h2]; rfl,.inl ⟨by omega,by omega⟩⟩
 ·exact .inl ⟨by rw [decide_eq_false (Int.not_lt.2 h1),lt_t h2]; rfl,.inr ⟨by omega,by omega⟩⟩
 ·exact .inr ⟨by rw [decide_eq_false (Int.not_lt.2 h1),lt_f h2]; rfl,.inl ⟨by omega,by omega⟩⟩
theorem floor_signs {m c p C q r:Int} (hC0:0 < C) (hpq:C * q + r = p) (hr0:0 <= r) (hr1:r < C) :
  (((m = p /\ c = C) \/ (m = -p /\ c = -C)) -> Int.fdiv m c = q) /\ (r = 0 -> ((m = -p /\ c = C) \/ (m = p /\ c = -C)) -> Int.fdiv m c = -q) /\ (0 < r -> ((m = -p /\ c = C) \/ (m = p /\ c = -C)) -> Int.fdiv m c = -(q + 1)):=by
 refine ⟨fun h=>?_,fun hr0 h=>?_,fun hr0 h=>?_⟩
 ·rcases h with ⟨h1,h2⟩ | ⟨h1,h2⟩
  ·rw [h1,h2]; exact fdiv_pos hC0 hpq.symm hr0 hr1
  ·rw [h1,h2,Int.neg_fdiv_neg]; exact fdiv_pos hC0 hpq.symm hr0 hr1
 ·have e:-p = C * (-q) + 0:=by rw [Int.mul_neg]; omega
  rcases h with ⟨h1,h2⟩ | ⟨h1,h2⟩
  ·rw [h1,h2]; exact fdiv_pos hC0 e (by omega) (by omega)
  ·rw [h1,h2,<- Int.neg_fdiv_neg,Int.neg_neg]; exact fdiv_pos hC0 e (by omega) (by omega)
 ·have e:-p = C * (-(q + 1)) + (C - r):=by rw [Int.mul_neg,Int.mul_add]; omega
  rcases h with ⟨h1,h2⟩ | ⟨h1,h2⟩
  ·rw [h1,h2]; exact fdiv_pos hC0 e (by omega) (by omega)
  ·rw [h1,h2,<- Int.neg_fdiv_neg,Int.neg_neg]; exact fdiv_pos hC0 e (by omega) (by omega)
theorem ref_mulDiv {fl:Nat} (hfl:130 <= fl) {a b c:Int} (ha:-9223372036854775807 <= a /\ a <= 9223372036854775807) (hb:-9223372036854775807 <= b /\ b <= 9223372036854775807) (hp:-9223372036854775806 <= a * b /\ a * b <= 9223372036854775806) (hc:c ≠ 0) (hc1:-9223372036854775807 <= c /\ c <= 9223372036854775807) :
  glazierref01_MulDiv fl a b c = some (Int.fdiv (a * b) c,0):=by
 unfold glazierref01_MulDiv;rw [bnd_eq,eq_f hc,bite_f,ref_times hfl ha hb hp,ob_some,bnd_eq,bnd_eq];obtain ⟨m,hm⟩:∃ m,m = a * b:=⟨_,rfl⟩
 rw [<- hm] at hp ⊢;clear hm ha hb;have hsg:=ref_signs m c hc;have hC0:0 < (c.natAbs:Int):=by omega
 have hC1:(c.natAbs:Int) <= 9223372036854775807:=by omega
 have hp0:0 <= (m.natAbs:Int):=by omega
 have hp1:(m.natAbs:Int) <= 9223372036854775806:=by omega
 have hsz:=ref_size hc1;obtain ⟨C,hC⟩:∃ C:Int,C = c.natAbs:=⟨_,rfl⟩
 obtain ⟨p,hP⟩:∃ p:Int,p = m.natAbs:=⟨_,rfl⟩
 rw [<- hC] at hC0 hC1 hsz hsg;rw [<- hP] at hp0 hp1 hsg ⊢;clear hC hP hp hc1 hc;have hq0:0 <= p / C:=Int.ediv_nonneg hp0 (by omega)
 have hqp:p / C <= p:=Int.ediv_le_self _ hp0;have hr0:=Int.emod_nonneg p (show C ≠ 0 by omega)
 have hr1:=Int.emod_lt_of_pos p hC0;obtain ⟨f1,f2,f3⟩:=floor_signs (m:=m) (c:=c) hC0 (Int.mul_ediv_add_emod p C) hr0 hr1;rcases hsg with ⟨hs,hmc⟩ | ⟨hs,hmc⟩
 ·rw [hs,bite_t,bnd_eq,gt_f (Int.le_refl 0),bite_f,bnd_eq,hsz,ob_some,ref_parts hfl hC0 hC1 hp0 hp1,ob_some];dsimp only;by_cases hpp:0 < p
  ·rw [gt_t hpp,bite_t,bnd_eq];by_cases hr2:0 < p % C
   ·rw [gt_t hr2,bite_t,bnd_eq,addU (by omega),bnd_eq,eq_f (by omega),bite_f,told1 (by omega) (by omega),f3 hr2 hmc]
    rfl
   ·rw [gt_f (by omega),bite_f,told1 (by omega) (by omega),f2 (by omega) hmc]
    rfl
  ·have hp00:p = 0:=by omega
   rw [gt_f (by omega),bite_f,told0 (by omega) (by omega),f2 (by rw [hp00,Int.zero_emod]) hmc,hp00,Int.zero_ediv]
   rfl
 ·rw [hs,bite_f,hsz,ob_some,ref_parts hfl hC0 hC1 hp0 hp1,ob_some];dsimp only;rw [told0 (by omega) (by omega),f1 hmc]
  rfl
theorem ref_down {fl:Nat} (hfl:130 <= fl) {a c:Int} (ha:-9223372036854775806 <= a /\ a <= 9223372036854775806) (hc:c ≠ 0) (hc1:-9223372036854775807 <= c /\ c <= 9223372036854775807):glazierref01_Down fl a c = some (Int.fdiv a c):=by
 unfold glazierref01_Down glazierref01_Floor;rw [ref_mulDiv hfl (by omega) (by decide) (by omega) hc hc1,Int.mul_one]
 rfl
end Go.Proofs.Ytkacojopcajboaa.G
namespace Go.Proofs.Ytkacojopcajboaa.G
open Go Go.RowKit Go.Proofs.Ytkacojopcajboaa.M
theorem lgetK {α:Type} {l:List α} {k:Nat} (h:k < l.length):F.get l (k:Int) = some l[k]:=by
 unfold F.get;rw [if_pos (Int.natCast_nonneg k),Int.toNat_natCast,List.getElem?_eq_getElem h]
theorem lgetI {α:Type} {l:List α} {i:Int} {k:Nat} (hi:i = (k:Int)) (h:k < l.length):F.get l i = some l[k]:=by
 rw [hi,lgetK h]
theorem lenK {α:Type} (l:List α):F.len l = (l.length:Int):=rfl
theorem appOk_t {α β:Type} {n:Nat} {l:List α} {m:List β} (h:l.length + m.length <= 100000) (hn:n <= 100000):F.appOk n l m = true:=by
 unfold F.appOk;have h2:(l.length + m.length) * n <= 100000 * 100000:=Nat.mul_le_mul h hn;rw [decide_eq_true (by simp only [maxLen]; omega),decide_eq_true (by omega)]
 rfl
theorem appK {α:Type} (l m:List α):F.app l m = l ++ m:=rfl
theorem fillOk_t {b:Nat} {n:Int} (h0:0 <= n) (h:n <= 100000) (hb:b <= 100000):F.fillOk b n = true:=by
 unfold F.fillOk;have h2:(b:Int) * n <= 100000 * 100000:=Int.mul_le_mul (by omega) h h0 (by decide)
 rw [decide_eq_true h0,decide_eq_true (by simp only [maxLen]; omega),decide_eq_true (by omega)]
 rfl
theorem over_same {α:Type} {l m:List α} (h:l.length = m.length):F.over l m = m:=by
 unfold F.over;rw [h,List.take_length,<- h,List.drop_length,List.append_nil]
theorem ldrop {α:Type} {l:List α} {k:Nat} (h:k < l.length):l.drop k = l[k] :: l.drop (k + 1):=List.drop_eq_getElem_cons h
end Go.Proofs.Ytkacojopcajboaa.G
namespace Go.Proofs.Ytkacojopcajboaa.G
open Go Go.RowKit Go.Proofs.Ytkacojopcajboaa.M
abbrev Vtx:=Int × Int × Int × Int × Int × Int × Int × Int
def dist (p:Int) (v:Vtx):Int:=
 if p = 0 then v.2.2.1 + v.2.2.2.1 else if p = 1 then 4 * v.2.2.2.1 + v.1 else if p = 2 then 4 * v.2.2.2.1 - v.1 else if p = 3 then 4 * v.2.2.2.1 + v.2.1 else if p = 4 then 4 * v.2.2.2.1 - v.2.1 else 0
def inC (M x:Int):Prop:=-M <= x /\ x <= M
def okC (M:Int) (v:Vtx):Prop:=inC M v.1 /\ inC M v.2.1 /\ inC M v.2.2.1 /\ inC M v.2.2.2.1 /\ inC M v.2.2.2.2.1 /\ inC M v.2.2.2.2.2.1 /\ inC M v.2.2.2.2.2.2.1 /\ inC M v.2.2.2.2.2.2.2
abbrev okB (v:Vtx):Prop:=okC 1048576 v
def isP (p:Int):Prop:=0 <= p /\ p <= 4
theorem five {p:Int} (h:isP p):p = 0 \/ p = 1 \/ p = 2 \/ p = 3 \/ p = 4:=by
 obtain ⟨h1,h2⟩:=h;omega
theorem dist_in {p:Int} {v:Vtx} (h:okB v):-5242880 <= dist p v /\ dist p v <= 5242880:=by
 obtain ⟨⟨a1,a2⟩,⟨b1,b2⟩,⟨c1,c2⟩,⟨d1,d2⟩,_⟩:=h;unfold dist;split
 ·omega
 ·split
  ·omega
  ·split
   ·omega
   ·split
    ·omega
    ·split <;> omega
theorem dist0 (v:Vtx):dist 0 v = v.2.2.1 + v.2.2.2.1:=rfl
theorem dist1 (v:Vtx):dist 1 v = 4 * v.2.2.2.1 + v.1:=rfl
theorem dist2 (v:Vtx):dist 2 v = 4 * v.2.2.2.1 - v.1:=rfl
theorem dist3 (v:Vtx):dist 3 v = 4 * v.2.2.2.1 + v.2.1:=rfl
theorem dist4 (v:Vtx):dist 4 v = 4 * v.2.2.2.1 - v.2.1:=rfl
theorem vec_dist {p:Int} {v:Vtx} (h:okB v):vec_Dist p v = some (dist p v):=by
 obtain ⟨⟨a1,a2⟩,⟨b1,b2⟩,⟨c1,c2⟩,⟨d1,d2⟩,_⟩:=h;unfold vec_Dist;by_cases h0:p < 0
 ·rw [bnd_eq,lt_t h0,bite_t];unfold dist;rw [if_neg (by omega),if_neg (by omega),if_neg (by omega),if_neg (by omega),if_neg (by omega)]
 ·rw [bnd_eq,lt_f (by omega),bite_f]
  by_cases h1:5 <= p
  ·rw [bnd_eq,ge_t h1,bite_t];unfold dist;rw [if_neg (by omega),if_neg (by omega),if_neg (by omega),if_neg (by omega),if_neg (by omega)]
  ·rw [bnd_eq,ge_f (by omega),bite_f,bnd_eq,mulI (a:=4) (b:=v.2.2.2.1) (by omega),bnd_eq,addI (a:=v.2.2.1) (b:=v.2.2.2.1) (by omega),bnd_eq,addI (a:=4 * v.2.2.2.1) (b:=v.1) (by omega),bnd_eq,subI (a:=4 * v.2.2.2.1) (b:=v.1) (by omega),bnd_eq,addI (a:=4 * v.2.2.2.1) (b:=v.2.1) (by omega),bnd_eq,subI (a:=4 * v.2.2.2.1) (b:=v.2.1) (by omega)]
   rcases five (p:=p) ⟨by omega,by omega⟩ with rfl | rfl | rfl | rfl | rfl <;> rfl
def mid (a b d e:Int):Int:=a + Int.fdiv ((b - a) * d) (d - e)
theorem mid_in {a b d e:Int} (hd:0 <= d) (he:e < 0):(min a b <= mid a b d e /\ mid a b d e <= max a b) /\ (d - e) * mid a b d e <= (d - e) * a + (b - a) * d /\ (d - e) * a + (b - a) * d < (d - e) * mid a b d e + (d - e):=by
 have hD:0 < d - e:=by omega
 obtain ⟨f1,f2⟩:=fdiv_in (p:=(b - a) * d) hD;unfold mid;refine ⟨?_,by rw [Int.mul_add]; omega,by rw [Int.mul_add]; omega⟩
 rcases Int.le_total a b with h | h
 ·have h0:0 <= (b - a) * d:=Int.mul_nonneg (by omega) hd
  have h1:(b - a) * d <= (d - e) * (b - a):=by
   rw [Int.mul_comm (d - e)];exact Int.mul_le_mul_of_nonneg_left (by omega) (by omega)
  have g0:Int.fdiv 0 (d - e) <= Int.fdiv ((b - a) * d) (d - e):=fdiv_mono hD h0;rw [Int.zero_fdiv] at g0;have g1:=fdiv_mono hD h1;rw [Int.mul_comm (d - e) (b - a),Int.mul_fdiv_cancel _ (by omega)] at g1
  omega
 ·have h0:(b - a) * d <= 0:=Int.mul_nonpos_of_nonpos_of_nonneg (by omega) hd
  have h1:(d - e) * (b - a) <= (b - a) * d:=by
   have:=Int.mul_le_mul_of_nonneg_left (show d <= d - e by omega) (show 0 <= a - b by omega)
   have e1:(a - b) * d = -((b - a) * d):=by rw [<- Int.neg_mul,Int.neg_sub]
   have e2:(a - b) * (d - e) = -((b - a) * (d - e)):=by rw [<- Int.neg_mul,Int.neg_sub]
   rw [e1,e2] at this;rw [Int.mul_comm (d - e)];omega
  have g0:Int.fdiv ((b - a) * d) (d - e) <= Int.fdiv 0 (d - e):=fdiv_mono hD h0;rw [Int.zero_fdiv] at g0;have g1:=fdiv_mono hD h1;rw [Int.mul_comm (d - e) (b - a),Int.mul_fdiv_cancel _ (by omega)] at g1
  omega
def btw (p:Int) (a b:Vtx):Vtx:=
 let d:=dist p a
 let e:=dist p b
 (mid a.1 b.1 d e,(mid a.2.1 b.2.1 d e,(mid a.2.2.1 b.2.2.1 d e,(mid a.2.2.2.1 b.2.2.2.1 d e,(mid a.2.2.2.2.1 b.2.2.2.2.1 d e,(mid a.2.2.2.2.2.1 b.2.2.2.2.2.1 d e,(mid a.2.2.2.2.2.2.1 b.2.2.2.2.2.2.1 d e,mid a.2.2.2.2.2.2.2 b.2.2.2.2.2.2.2 d e)))))))
instance (p:Int):Decidable (isP p):=inferInstanceAs (Decidable (_ /\ _))
def crossV (p:Int) (a b:Vtx):Bool:=decide (isP p /\ 0 <= dist p a /\ dist p b < 0)
def zeroV:Vtx:=(0,(0,(0,(0,(0,(0,(0,0)))))))
theorem mul_inC {a b m n:Int} (ha:-m <= a /\ a <= m) (hb:0 <= b /\ b <= n):-(m * n) <= a * b /\ a * b <= m * n:=by
 have hm:0 <= m:=by omega
 have h1:a * b <= m * b:=Int.mul_le_mul_of_nonneg_right ha.2 hb.1;have h2:m * b <= m * n:=Int.mul_le_mul_of_nonneg_left hb.2 hm;have h3:-m * b <= a * b:=Int.mul_le_mul_of_nonneg_right ha.1 hb.1;rw [Int.neg_mul] at h3;omega
theorem mid_run (fl:Nat) {a b d e:Int} (ha:inC 1048576 a) (hb:inC 1048576 b) (hd:0 <= d /\ d <= 5242880) (he:-5242880 <= e /\ e < 0) :
  fixed_MulDiv fl (F.sub .i64 b a) d (F.sub .i64 d e) = some (Int.fdiv ((b - a) * d) (d - e),0) /\ F.add .i64 a (Int.fdiv ((b - a) * d) (d - e)) = mid a b d e:=by
 obtain ⟨a1,a2⟩:=ha;obtain ⟨b1,b2⟩:=hb;have hp:=mul_inC (a:=b - a) (b:=d) (m:=2097152) (n:=5242880) (by omega) hd
 have hm:=(mid_in (a:=a) (b:=b) hd.1 he.2).1;rw [subI (by omega),subI (by omega)]
 refine ⟨mulDiv_spec fl (by omega) (by omega) (by omega) (by omega) (by omega),?_⟩
 unfold mid at hm ⊢;rw [addI (by omega)]
theorem vec_between (fl:Nat) {p:Int} {a b:Vtx} (ha:okB a) (hb:okB b):vec_Between fl a b p = some (if crossV p a b then (btw p a b,true) else (zeroV,false)):=by
 have hda:=dist_in (p:=p) ha;have hdb:=dist_in (p:=p) hb;unfold vec_Between;rw [vec_dist ha,ob_some,vec_dist hb,ob_some];by_cases h0:p < 0
 ·rw [bnd_eq,lt_t h0,bite_t,if_neg (by unfold crossV isP; rw [decide_eq_true_eq]; omega)]; rfl
 ·rw [bnd_eq,lt_f (by omega),bite_f]
  by_cases h1:5 <= p
  ·rw [bnd_eq,ge_t h1,bite_t,if_neg (by unfold crossV isP; rw [decide_eq_true_eq]; omega)]; rfl
  ·rw [bnd_eq,ge_f (by omega),bite_f]
   by_cases h2:dist p a < 0
   ·rw [bnd_eq,lt_t h2,bite_t,if_neg (by unfold crossV isP; rw [decide_eq_true_eq]; omega)]; rfl
   ·rw [bnd_eq,lt_f (by omega),bite_f]
    by_cases h3:0 <= dist p b
    ·rw [bnd_eq,ge_t h3,bite_t,if_neg (by unfold crossV isP; rw [decide_eq_true_eq]; omega)]; rfl
    ·rw [bnd_eq,ge_f (by omega),bite_f,if_pos (by unfold crossV isP; rw [decide_eq_true_eq]; omega)]
     have hd:0 <= dist p a /\ dist p a <= 5242880:=by omega
     have he:-5242880 <= dist p b /\ dist p b < 0:=by omega
     obtain ⟨a1,a2,a3,a4,a5,a6,a7,a8⟩:=ha;obtain ⟨b1,b2,b3,b4,b5,b6,b7,b8⟩:=hb;obtain ⟨m1,n1⟩:=mid_run fl a1 b1 hd he;obtain ⟨m2,n2⟩:=mid_run fl a2 b2 hd he;obtain ⟨m3,n3⟩:=mid_run fl a3 b3 hd he;obtain ⟨m4,n4⟩:=mid_run fl a4 b4 hd he;obtain ⟨m5,n5⟩:=mid_run fl a5 b5 hd he;obtain ⟨m6,n6⟩:=mid_run fl a6 b6 hd he;obtain ⟨m7,n7⟩:=mid_run fl a7 b7 hd he;obtain ⟨m8,n8⟩:=mid_run fl a8 b8 hd he;unfold vec_row vec_made
     rw [ob_some,ob_some,bnd_eq,bnd_eq,m1,ob_some,bnd_eq,n1,bnd_eq,bnd_eq,m2,ob_some,bnd_eq,n2,bnd_eq,bnd_eq,m3,ob_some,bnd_eq,n3,bnd_eq,bnd_eq,m4,ob_some,bnd_eq,n4,bnd_eq,bnd_eq,m5,ob_some,bnd_eq,n5,bnd_eq,bnd_eq,m6,ob_some,bnd_eq,n6,
      bnd_eq,bnd_eq,m7,ob_some,bnd_eq,n7,bnd_eq,bnd_eq,m8,ob_some,bnd_eq,n8,ob_some]
     rfl
theorem btw_in {M p:Int} {a b:Vtx} (ha:okC M a) (hb:okC M b) (h0:0 <= dist p a) (h1:dist p b < 0):okC M (btw p a b):=by
 obtain ⟨⟨a1,a1'⟩,⟨a2,a2'⟩,⟨a3,a3'⟩,⟨a4,a4'⟩,⟨a5,a5'⟩,⟨a6,a6'⟩,⟨a7,a7'⟩,a8,a8'⟩:=ha;obtain ⟨⟨b1,b1'⟩,⟨b2,b2'⟩,⟨b3,b3'⟩,⟨b4,b4'⟩,⟨b5,b5'⟩,⟨b6,b6'⟩,⟨b7,b7'⟩,b8,b8'⟩:=hb;have go:∀ {x y:Int},-M <= x -> x <= M -> -M <= y -> y <= M -> inC M (mid x y (dist p a) (dist p b)):=fun {x y} h1' h2' h3' h4'=>by
  have:=(mid_in (a:=x) (b:=y) h0 h1).1;unfold inC;omega
 exact ⟨go a1 a1' b1 b1',go a2 a2' b2 b2',go a3 a3' b3 b3',go a4 a4' b4 b4',go a5 a5' b5 b5',go a6 a6' b6 b6',go a7 a7' b7 b7',go a8 a8' b8 b8'⟩
end Go.Proofs.Ytkacojopcajboaa.G
namespace Go.Proofs.Ytkacojopcajboaa.G
open Go Go.RowKit Go.Proofs.Ytkacojopcajboaa.M
/-! ### Cutting by a plane -/
def step (p:Int) (q:Vtx × Vtx):List Vtx:=
 if 0 <= dist p q.1 then q.1 :: (if dist p q.2 < 0 then [btw p q.1 q.2] else []) else if 0 <= dist p q.2 then [btw p q.2 q.1] else []
def rot1 (l:List Vtx):List Vtx:=l.drop 1 ++ l.take 1
def prs (l:List Vtx):List (Vtx × Vtx):=l.zip (rot1 l)
def cutBy (p:Int) (l:List Vtx):List Vtx:=(prs l).flatMap (step p)
def byL (p:Int) (l:List Vtx):List Vtx:=if isP p then cutBy p l else l
theorem rot1_length (l:List Vtx):(rot1 l).length = l.length:=by
 unfold rot1;rw [List.length_append,List.length_drop,List.length_take];omega
theorem prs_length (l:List Vtx):(prs l).length = l.length:=by
 unfold prs;rw [List.length_zip,rot1_length,Nat.min_self]
theorem rot1_get {l:List Vtx} {k:Nat} (h:k < l.length):(rot1 l)[k]? = some (l[(k + 1) % l.length]'(Nat.mod_lt _ (by omega))):=by
 unfold rot1;by_cases hk:k + 1 < l.length
 ·rw [List.getElem?_append_left (by rw [List.length_drop]; omega),List.getElem?_drop,Nat.add_comm 1 k,List.getElem?_eq_getElem hk]
  congr 1
  exact getElem_congr_idx (Nat.mod_eq_of_lt hk).symm
 ·have he:k + 1 = l.length:=by omega
  rw [List.getElem?_append_right (by rw [List.length_drop]; omega),List.length_drop,show k - (l.length - 1) = 0 by omega,List.getElem?_take,if_pos (by decide),List.getElem?_eq_getElem (by omega)]
  congr 1
  exact getElem_congr_idx (by rw [he,Nat.mod_self])
theorem prs_get {l:List Vtx} {k:Nat} (h:k < l.length):(prs l)[k]'(by rw [prs_length]; exact h) = (l[k],l[(k + 1) % l.length]'(Nat.mod_lt _ (by omega))):=by
 have h2:=rot1_get h;have hr:k < (rot1 l).length:=by rw [rot1_length]; exact h
 rw [List.getElem?_eq_getElem hr] at h2;injection h2 with h2;unfold prs;rw [List.getElem_zip,h2]
theorem prs_mem {l:List Vtx} {q:Vtx × Vtx} (h:q ∈ prs l):q.1 ∈ l /\ q.2 ∈ l:=by
 have:=List.of_mem_zip (a:=q.1) (b:=q.2) (l₁:=l) (l₂:=rot1 l) h;refine ⟨this.1,?_⟩;rcases List.mem_append.1 this.2 with h | h
 ·exact List.mem_of_mem_drop h
 ·exact List.mem_of_mem_take h
theorem step_in {M p:Int} {q:Vtx × Vtx} (h1:okC M q.1) (h2:okC M q.2):∀ v ∈ step p q,okC M v:=fun v hv=>by
 unfold step at hv;split at hv
 ·rcases List.mem_cons.1 hv with rfl | hv
  ·exact h1
  ·split at hv
   ·simp at hv; subst hv; exact btw_in h1 h2 (by assumption) (by assumption)
   ·cases hv
 ·split at hv
  ·simp at hv; subst hv; exact btw_in h2 h1 (by assumption) (by omega)
  ·cases hv
theorem cut_mem {P:Vtx -> Prop} {p:Int} {l:List Vtx} (h:∀ q,q.1 ∈ l -> q.2 ∈ l -> ∀ v ∈ step p q,P v):∀ v ∈ cutBy p l,P v:=fun v hv=>by
 obtain ⟨q,hq,hv⟩:=List.mem_flatMap.1 hv;exact h q (prs_mem hq).1 (prs_mem hq).2 v hv
theorem byL_in {M p:Int} {l:List Vtx} (h:∀ v ∈ l,okC M v):∀ v ∈ byL p l,okC M v:=by
 unfold byL;split
 ·exact cut_mem fun q h1 h2=>step_in (h _ h1) (h _ h2)
 ·exact h
theorem step_length (p:Int) (q:Vtx × Vtx):(step p q).length <= 2:=by
 unfold step;split
 ·split <;> simp
 ·split <;> simp
theorem flat_length {ps:List (Vtx × Vtx)} {p:Int}:(ps.flatMap (step p)).length <= 2 * ps.length:=by
 induction ps with
 | nil=>simp
 | cons q r ih=>
  rw [List.flatMap_cons,List.length_append,List.length_cons];have:=step_length p q;omega
theorem byL_length (p:Int) (l:List Vtx):(byL p l).length <= 2 * l.length:=by
 unfold byL;split
 ·have:=flat_length (ps:=prs l) (p:=p);rw [prs_length] at this;exact this
 ·omega
theorem nextI {k n:Nat} (h:k < n) (hn:n <= 10000):F.rem (F.add .i64 (k:Int) 1) (n:Int) = (((k + 1) % n:Nat):Int):=by
 rw [addI (by omega)]
 unfold F.rem;rw [show (k:Int) + 1 = ((k + 1:Nat):Int) by omega,Int.tmod_eq_emod_of_nonneg (by omega)]
 rfl
theorem crossV_t {p:Int} {a b:Vtx} (hp:isP p) (h1:0 <= dist p a) (h2:dist p b < 0):crossV p a b = true:=decide_eq_true ⟨hp,h1,h2⟩
theorem crossV_f {p:Int} {a b:Vtx} (h:dist p a < 0 \/ 0 <= dist p b):crossV p a b = false:=decide_eq_false (by omega)
theorem by_loop (fl:Nat) {p:Int} (hp:isP p) {l:List Vtx} (hl:∀ v ∈ l,okB v) (hlen:l.length <= 10000):∀ (m k n:Nat) (acc:List Vtx),k + m = l.length -> m + 1 <= n -> acc.length <= 2 * k ->
  clip_By_l1 fl n p l acc l (l.length:Int) (k:Int) = some (acc ++ ((prs l).drop k).flatMap (step p),())
 | 0,k,0,acc,_,h,_=>by omega
 | 0,k,n + 1,acc,hk,_,_=>by
  unfold clip_By_l1;rw [bnd_eq,lt_f (by omega),bite_f,List.drop_eq_nil_of_le (by rw [prs_length]; omega),List.flatMap_nil,List.append_nil]
 | m + 1,k,0,acc,_,h,_=>by omega
 | m + 1,k,n + 1,acc,hk,hn,ha=>by
  have hkl:k < l.length:=by omega
  have hnx:(k + 1) % l.length < l.length:=Nat.mod_lt _ (by omega)
  have hps:k < (prs l).length:=by rw [prs_length]; exact hkl
  unfold clip_By_l1;rw [bnd_eq,lt_t (by omega),bite_t,lgetK hkl,ob_some,bnd_eq,bnd_eq,lenK,nz_t (by omega),bgd_t,bnd_eq,nextI hkl hlen,lgetK hnx,ob_some]
  have o1:=hl _ (List.getElem_mem hkl);have o2:=hl _ (List.getElem_mem hnx);have ih:∀ acc':List Vtx,acc' = acc ++ step p (l[k],l[(k + 1) % l.length]) -> clip_By_l1 fl n p l acc' l (l.length:Int) ((k:Int) + 1) = some (acc ++ ((prs l).drop k).flatMap (step p),()):=fun acc' he=>by
   have:=by_loop fl hp hl hlen m (k + 1) n acc' (by omega) (by omega) (by rw [he,List.length_append]; have:=step_length p (l[k],l[(k + 1) % l.length]); omega)
   rw [show ((k + 1:Nat):Int) = (k:Int) + 1 by omega] at this
   rw [this,ldrop hps,List.flatMap_cons,prs_get hkl,he,List.append_assoc]
  obtain ⟨a,ea⟩:∃ a,a = l[k]:=⟨_,rfl⟩
  obtain ⟨b,eb⟩:∃ b,b = l[(k + 1) % l.length]:=⟨_,rfl⟩
  rw [<- ea] at o1 ih ⊢;rw [<- eb] at o2 ih ⊢;rw [vec_dist o1,ob_some,bnd_eq];by_cases h1:0 <= dist p a
  ·rw [ge_t h1,bite_t,appOk_t (by simp; omega) (by decide),bgd_t,bnd_eq,appK,vec_between fl o1 o2,ob_some]
   by_cases h2:dist p b < 0
   ·rw [crossV_t hp h1 h2,if_pos rfl,bite_t,appOk_t (by simp; omega) (by decide),bgd_t,bnd_eq,appK,bnd_eq,addI (by omega)]
    refine ih _ ?_;unfold step;rw [if_pos h1,if_pos h2,List.append_assoc];rfl
   ·rw [crossV_f (by omega),if_neg (by decide),bite_f,bnd_eq,addI (by omega)]
    refine ih _ ?_;unfold step;rw [if_pos h1,if_neg h2]
  ·rw [ge_f (by omega),bite_f,vec_between fl o2 o1,ob_some]
   by_cases h2:0 <= dist p b
   ·rw [crossV_t hp h2 (by omega),if_pos rfl,bite_t,appOk_t (by simp; omega) (by decide),bgd_t,bnd_eq,appK,bnd_eq,addI (by omega)]
    refine ih _ ?_;unfold step;rw [if_neg h1,if_pos h2]
   ·rw [crossV_f (by omega),if_neg (by decide),bite_f,bnd_eq,addI (by omega)]
    refine ih _ ?_;unfold step;rw [if_neg h1,if_neg h2,List.append_nil]
theorem own_spec {l:List Vtx} (hlen:l.length <= 10000):clip_own l = some l:=by
 unfold clip_own;rw [bnd_eq,lenK,fillOk_t (by omega) (by omega) (by decide),bgd_t,bnd_eq,over_same (by unfold F.fill; rw [List.length_replicate]; omega)]
theorem by_spec {fl:Nat} {p:Int} {l:List Vtx} (hl:∀ v ∈ l,okB v) (hlen:l.length <= 10000) (hfl:l.length + 1 <= fl):clip_By fl p l = some (byL p l):=by
 unfold clip_By byL;by_cases h0:p < 0
 ·rw [bnd_eq,lt_t h0,bite_t,own_spec hlen,ob_some,if_neg (by unfold isP; omega)]
 ·rw [bnd_eq,lt_f (by omega),bite_f]
  by_cases h1:5 <= p
  ·rw [bnd_eq,ge_t h1,bite_t,own_spec hlen,ob_some,if_neg (by unfold isP; omega)]
  ·have hp:isP p:=⟨by omega,by omega⟩
   have:=by_loop fl hp hl hlen l.length 0 fl [] (by omega) hfl (by simp)
   rw [bnd_eq,ge_f (by omega),bite_f,bnd_eq,lenK]
   rw [show ((0:Nat):Int) = 0 from rfl] at this;rw [this,ob_some,if_pos hp,List.drop_zero];rfl
def allL (l:List Vtx):List Vtx:=byL 4 (byL 3 (byL 2 (byL 1 (byL 0 l))))
def polyL (l:List Vtx):List Vtx:=if (allL l).length < 3 then [] else allL l
theorem chain {l:List Vtx} (hl:∀ v ∈ l,okB v) (hlen:l.length <= 100):(∀ v ∈ byL 0 l,okB v) /\ (∀ v ∈ byL 1 (byL 0 l),okB v) /\ (∀ v ∈ byL 2 (byL 1 (byL 0 l)),okB v) /\ (∀ v ∈ byL 3 (byL 2 (byL 1 (byL 0 l))),okB v) /\ (∀ v ∈ allL l,okB v) /\
  (byL 0 l).length <= 200 /\ (byL 1 (byL 0 l)).length <= 400 /\ (byL 2 (byL 1 (byL 0 l))).length <= 800 /\ (byL 3 (byL 2 (byL 1 (byL 0 l)))).length <= 1600 /\ (allL l).length <= 3200:=by
 have h0:=byL_in (p:=0) hl;have h1:=byL_in (p:=1) h0;have h2:=byL_in (p:=2) h1;have h3:=byL_in (p:=3) h2;have h4:=byL_in (p:=4) h3;have l0:=byL_length 0 l;have l1:=byL_length 1 (byL 0 l);have l2:=byL_length 2 (byL 1 (byL 0 l));have l3:=byL_length 3 (byL 2 (byL 1 (byL 0 l)));have l4:=byL_length 4 (byL 3 (byL 2 (byL 1 (byL 0 l))));refine ⟨h0,h1,h2,h3,h4,?_,?_,?_,?_,?_⟩
 ·omega
 ·omega
 ·omega
 ·omega
 ·unfold allL; omega
theorem poly_spec {fl:Nat} {l:List Vtx} (hl:∀ v ∈ l,okB v) (hlen:l.length <= 100) (hfl:5000 <= fl):clip_Poly fl l = some (polyL l):=by
 obtain ⟨h0,h1,h2,h3,h4,k0,k1,k2,k3,k4⟩:=chain hl hlen;unfold clip_Poly polyL;rw [own_spec (by omega),ob_some,by_spec hl (by omega) (by omega),ob_some,by_spec h0 (by omega) (by omega),ob_some,by_spec h1 (by omega) (by omega),ob_some,by_spec h2 (by omega) (by omega),ob_some,by_spec h3 (by omega) (by omega),ob_some,bnd_eq,bnd_eq]
 show bite (F.lt (F.len (allL l)) 3) (some []) (some (allL l)) = _;rw [lenK];by_cases h:(allL l).length < 3
 ·rw [lt_t (by omega),bite_t,if_pos h]
 ·rw [lt_f (by omega),bite_f,if_neg h]
end Go.Proofs.Ytkacojopcajboaa.G
namespace Go.Proofs.Ytkacojopcajboaa.G
open Go Go.RowKit Go.Proofs.Ytkacojopcajboaa.M
/-! ### Rows that are made -/
def fitC (v:Vtx):Prop:=inC 32768 v.1 /\ inC 32768 v.2.1 /\ inC 32768 v.2.2.1 /\ (1 <= v.2.2.2.1 /\ v.2.2.2.1 <= 32768) /\ inC 4096 v.2.2.2.2.1 /\ inC 4096 v.2.2.2.2.2.1 /\ inC 4096 v.2.2.2.2.2.2.1 /\ inC 4096 v.2.2.2.2.2.2.2
theorem fitC_ok {v:Vtx} (h:fitC v):okB v:=by
 obtain ⟨⟨a1,a2⟩,⟨b1,b2⟩,⟨c1,c2⟩,⟨d1,d2⟩,⟨e1,e2⟩,⟨f1,f2⟩,⟨g1,g2⟩,h1,h2⟩:=h;refine ⟨⟨?_,?_⟩,⟨?_,?_⟩,⟨?_,?_⟩,⟨?_,?_⟩,⟨?_,?_⟩,⟨?_,?_⟩,⟨?_,?_⟩,⟨?_,?_⟩⟩ <;> omega
theorem fit_C (v:Vtx):∃ r,glazierref04_Fit v = some r /\ fitC r:=by
 have t1:=tmod_lt (a:=v.1) (m:=32769) (by decide)
 have t2:=tmod_lt (a:=v.2.1) (m:=32769) (by decide)
 have t3:=tmod_lt (a:=v.2.2.1) (m:=32769) (by decide)
 have t4:=tmod_lt (a:=v.2.2.2.1) (m:=32768) (by decide)
 have t5:=tmod_lt (a:=v.2.2.2.2.1) (m:=4097) (by decide)
 have t6:=tmod_lt (a:=v.2.2.2.2.2.1) (m:=4097) (by decide)
 have t7:=tmod_lt (a:=v.2.2.2.2.2.2.1) (m:=4097) (by decide)
 have t8:=tmod_lt (a:=v.2.2.2.2.2.2.2) (m:=4097) (by decide)
 unfold glazierref04_Fit;simp only [bnd_eq,F.rem];by_cases h:v.2.2.2.1.tmod 32768 < 0
 ·rw [lt_t h,bite_t,negI (by omega),addI (by omega)]
  exact ⟨_,rfl,⟨by dsimp only; omega,by dsimp only; omega⟩,⟨by dsimp only; omega,by dsimp only; omega⟩,⟨by dsimp only; omega,by dsimp only; omega⟩,⟨by dsimp only; omega,by dsimp only; omega⟩,⟨by dsimp only; omega,by dsimp only; omega⟩,⟨by dsimp only; omega,by dsimp only; omega⟩,⟨by dsimp only; omega,by dsimp only; omega⟩,⟨by dsimp only; omega,by dsimp only; omega⟩⟩
 ·rw [lt_f (by omega),bite_f,addI (by omega)]
  exact ⟨_,rfl,⟨by dsimp only; omega,by dsimp only; omega⟩,⟨by dsimp only; omega,by dsimp only; omega⟩,⟨by dsimp only; omega,by dsimp only; omega⟩,⟨by dsimp only; omega,by dsimp only; omega⟩,⟨by dsimp only; omega,by dsimp only; omega⟩,⟨by dsimp only; omega,by dsimp only; omega⟩,⟨by dsimp only; omega,by dsimp only; omega⟩,⟨by dsimp only; omega,by dsimp only; omega⟩⟩
/-! ### What stays, and what goes -/
theorem prs_fst (l:List Vtx):(prs l).map (·.1) = l:=by
 unfold prs;exact List.map_fst_zip (by rw [rot1_length]; exact Nat.le_refl _)
theorem prs_snd (l:List Vtx):(prs l).map (·.2) = rot1 l:=by
 unfold prs;exact List.map_snd_zip (by rw [rot1_length]; exact Nat.le_refl _)
/-! ### How many there are -/
def ins (p:Int) (v:Vtx):Bool:=decide (0 <= dist p v)
theorem counts {p:Int}:∀ (ps:List (Vtx × Vtx)),∃ c1 c2 c11 c00:Nat,(ps.map (·.1)).countP (ins p) = c1 + c11 /\ (ps.map (·.2)).countP (ins p) = c2 + c11 /\ ps.length = c1 + c2 + c11 + c00 /\ (ps.flatMap (G.step p)).length = c1 + c11 + c1 + c2
 | []=>⟨0,0,0,0,rfl,rfl,rfl,rfl⟩
 | q :: r=>by
  obtain ⟨c1,c2,c11,c00,h1,h2,h3,h4⟩:=counts (p:=p) r;simp only [List.map_cons,List.countP_cons,List.length_cons,List.flatMap_cons,List.length_append,h1,h2,h3,h4];unfold G.step ins;by_cases a1:0 <= dist p q.1 <;> by_cases a2:0 <= dist p q.2
  ·refine ⟨c1,c2,c11 + 1,c00,?_,?_,?_,?_⟩
   ·rw [if_pos (by simpa using a1)]; omega
   ·rw [if_pos (by simpa using a2)]; omega
   ·omega
   ·rw [if_pos a1,if_neg (by omega)]; simp; omega
  ·refine ⟨c1 + 1,c2,c11,c00,?_,?_,?_,?_⟩
   ·rw [if_pos (by simpa using a1)]; omega
   ·rw [if_neg (by simpa using a2)]; omega
   ·omega
   ·rw [if_pos a1,if_pos (by omega)]; simp; omega
  ·refine ⟨c1,c2 + 1,c11,c00,?_,?_,?_,?_⟩
   ·rw [if_neg (by simpa using a1)]; omega
   ·rw [if_pos (by simpa using a2)]; omega
   ·omega
   ·rw [if_neg a1,if_pos a2]; simp; omega
  ·refine ⟨c1,c2,c11,c00 + 1,?_,?_,?_,?_⟩
   ·rw [if_neg (by simpa using a1)]; omega
   ·rw [if_neg (by simpa using a2)]; omega
   ·omega
   ·rw [if_neg a1,if_neg a2]; simp
theorem half (p:Int) (l:List Vtx):2 * (byL p l).length <= 3 * l.length:=by
 unfold byL;split
 ·obtain ⟨c1,c2,c11,c00,h1,h2,h3,h4⟩:=counts (p:=p) (prs l);rw [prs_fst] at h1;rw [prs_snd] at h2;rw [prs_length] at h3;have hr:(rot1 l).countP (ins p) = l.countP (ins p):=by
   unfold rot1;rw [List.countP_append,Nat.add_comm,<- List.countP_append,List.take_append_drop]
  unfold cutBy;omega
 ·omega
end Go.Proofs.Ytkacojopcajboaa.G
namespace Go.Proofs.Ytkacojopcajboaa.G
open Go Go.RowKit Go.Proofs.Ytkacojopcajboaa.M
theorem mul_in {a b m n:Int} (ha:-m <= a /\ a <= m) (hb:0 <= b /\ b <= n):-(m * n) <= a * b /\ a * b <= m * n:=by
 have hm:0 <= m:=by omega
 have h1:a * b <= m * b:=Int.mul_le_mul_of_nonneg_right ha.2 hb.1;have h2:m * b <= m * n:=Int.mul_le_mul_of_nonneg_left hb.2 hm;have h3:-m * b <= a * b:=Int.mul_le_mul_of_nonneg_right ha.1 hb.1;rw [Int.neg_mul] at h3;omega
theorem at_spec (fl:Nat) {x s:Int} {v:Int × Int × Int × Int × Int × Int × Int × Int} (hx:-1099511627776 <= x /\ x <= 1099511627776) (hs:0 <= s /\ s <= 32768) (hw:0 < v.2.2.2.1 /\ v.2.2.2.1 <= 9223372036854775807) :
  view_Point_1 fl x s v = some (Int.fdiv (x * s) v.2.2.2.1 + s):=by
 have h:=mul_in hx hs;have h1:=fdiv_lim (p:=x * s) hw.1 h.1 h.2 (by decide)
 unfold view_Point_1;rw [mulDiv_spec fl (by omega) (by omega) (by omega) (by omega) (by omega)]
 simp only [ob_some,bnd_eq];rw [addI (by omega)]
theorem point_spec (fl:Nat) {w h:Int} {v:Int × Int × Int × Int × Int × Int × Int × Int} (hw:1 <= w /\ w <= 64) (hh:1 <= h /\ h <= 64) (hx:-1099511627776 <= v.1 /\ v.1 <= 1099511627776) (hy:-1099511627776 <= v.2.1 /\ v.2.1 <= 1099511627776)
  (hz:-1099511627776 <= v.2.2.1 /\ v.2.2.1 <= 1099511627776) (hW:1 <= v.2.2.2.1 /\ v.2.2.2.1 <= 9223372036854775807) :
  view_Point fl w h v = some ((Int.fdiv (v.1 * (8 * w)) v.2.2.2.1 + 8 * w,Int.fdiv (v.2.1 * (8 * h)) v.2.2.2.1 + 8 * h,Int.fdiv (v.2.2.1 * 32768) v.2.2.2.1 + 32768,v.2.2.2.2),true):=by
 unfold view_Point;simp only [bnd_eq];rw [f_min,f_min,lt_f (by omega),f_max,gt_f (by omega),mulI (by omega),mulI (by omega)]
 simp only [bite_f];rw [at_spec fl hx (by omega) (by omega),at_spec fl hy (by omega) (by omega),at_spec fl hz (by omega) (by omega)]
 rfl
theorem point_none (fl:Nat) {w h:Int} {v:Int × Int × Int × Int × Int × Int × Int × Int} (h0:w < 1 \/ h < 1 \/ v.2.2.2.1 < 1 \/ 64 < w \/ 64 < h) :
  view_Point fl w h v = some ((0,(0,(0,(0,(0,(0,0)))))),false):=by
 unfold view_Point;simp only [bnd_eq];rw [f_min,f_min,f_max];by_cases h1:min (min w h) v.2.2.2.1 < 1
 ·rw [lt_t h1]; rfl
 ·rw [lt_f (by omega),gt_t (by omega)]; rfl
end Go.Proofs.Ytkacojopcajboaa.G
namespace Go.Proofs.Ytkacojopcajboaa.G
open Go Go.RowKit Go.Proofs.Ytkacojopcajboaa.M
abbrev Vx:=Int × Int × Int × Int × Int × Int × Int × Int
abbrev Px:=Int × Int × Int × Int × Int × Int × Int
def okV (v:Vx):Prop:=(-1048576 <= v.1 /\ v.1 <= 1048576) /\ (-1048576 <= v.2.1 /\ v.2.1 <= 1048576) /\ (-1048576 <= v.2.2.1 /\ v.2.2.1 <= 1048576) /\ (-1048576 <= v.2.2.2.1 /\ v.2.2.2.1 <= 1048576)
def onS (w h:Int) (v:Vx):Bool:=decide ((1 <= w /\ w <= 64) /\ (1 <= h /\ h <= 64) /\ 1 <= v.2.2.2.1)
def ptS (w h:Int) (v:Vx):Px:=(Int.fdiv (v.1 * (8 * w)) v.2.2.2.1 + 8 * w,Int.fdiv (v.2.1 * (8 * h)) v.2.2.2.1 + 8 * h,Int.fdiv (v.2.2.1 * 32768) v.2.2.2.1 + 32768,v.2.2.2.2)
def pzS:Px:=(0,(0,(0,(0,(0,(0,0))))))
def PS (w h:Int) (v:Vx):Px × Bool:=(if onS w h v then ptS w h v else pzS,onS w h v)
theorem point_S (fl:Nat) {w h:Int} {v:Vx} (hv:okV v):view_Point fl w h v = some (PS w h v):=by
 obtain ⟨h1,h2,h3,h4⟩:=hv;unfold PS;by_cases hs:onS w h v = true
 ·have hs':=of_decide_eq_true hs;rw [if_pos hs,point_spec fl hs'.1 hs'.2.1 (by omega) (by omega) (by omega) ⟨hs'.2.2,by omega⟩,hs]
  rfl
 ·have hs0:onS w h v = false:=by simpa using hs
  have hs':=of_decide_eq_false hs0;rw [if_neg hs,point_none fl (by omega),hs0]
  rfl
theorem PS_out {w h:Int} {v:Vx} (hs:onS w h v = true):PS w h v = (ptS w h v,true):=by unfold PS; rw [if_pos hs,hs]
theorem PS_none {w h:Int} {v:Vx} (hs:onS w h v = false):(PS w h v).2 = false:=by unfold PS; exact hs
theorem points_loop (fl:Nat) {w h:Int} {l:List Vx} (hl:∀ v ∈ l,okV v) (hlen:l.length <= 1000):∀ (m k n:Nat) (acc:List Px),k + m = l.length -> m + 1 <= n -> acc.length = k ->
  view_Points_l1 fl n w h acc l (l.length:Int) (k:Int) = some (if (l.drop k).all (onS w h) then .inr (acc ++ (l.drop k).map (ptS w h),()) else .inl ())
 | 0,k,0,acc,_,h,_=>by omega
 | 0,k,n + 1,acc,hk,_,_=>by
  unfold view_Points_l1;rw [bnd_eq,lt_f (by omega),bite_f,List.drop_eq_nil_of_le (by omega)]
  simp
 | m + 1,k,0,acc,_,h,_=>by omega
 | m + 1,k,n + 1,acc,hk,hn,ha=>by
  have hkl:k < l.length:=by omega
  unfold view_Points_l1;rw [bnd_eq,lt_t (by omega),bite_t,lgetK hkl,ob_some,point_S fl (hl _ (List.getElem_mem hkl)),ob_some,bnd_eq,ldrop hkl]
  cases hs:onS w h l[k] with
  | false=>
   rw [PS_none hs,not_f,bite_t,List.all_cons,hs];rfl
  | true=>
   rw [PS_out hs,not_t,bite_f,appOk_t (by simp; omega) (by decide),bgd_t,bnd_eq,appK,bnd_eq,addI (by omega)]
   have ih:=points_loop fl (w:=w) (h:=h) hl hlen m (k + 1) n (acc ++ [ptS w h l[k]]) (by omega) (by omega) (by simp [ha])
   rw [show ((k + 1:Nat):Int) = (k:Int) + 1 by omega] at ih
   rw [ih,List.all_cons,hs,Bool.true_and,List.map_cons,List.append_assoc];rfl
theorem points_S {fl:Nat} {w h:Int} {l:List Vx} (hl:∀ v ∈ l,okV v) (hlen:l.length <= 1000) (hfl:l.length + 1 <= fl):view_Points fl w h l = some (if l.all (onS w h) then (l.map (ptS w h),true) else ([],false)):=by
 unfold view_Points;have:=points_loop fl (w:=w) (h:=h) hl hlen l.length 0 fl [] (by omega) hfl rfl
 rw [bnd_eq,lenK];rw [show ((0:Nat):Int) = 0 from rfl] at this;rw [this,ob_some,List.drop_zero];cases l.all (onS w h) <;> rfl
end Go.Proofs.Ytkacojopcajboaa.G
namespace Go.Proofs.Ytkacojopcajboaa.G
open Go Go.RowKit Go.Proofs.Ytkacojopcajboaa.M
abbrev Tri:=Px × Px × Px
def crs (a b:Px) (x y:Int):Int:=(b.1 - a.1) * (y - a.2.1) - (b.2.1 - a.2.1) * (x - a.1)
def area (u:Tri):Int:=crs u.1 u.2.1 u.2.2.1 u.2.2.2.1
def big (n:Int):Prop:=-536872960 <= n /\ n <= 536872960
def okG (p:Px):Prop:=big p.1 /\ big p.2.1
def okG3 (u:Tri):Prop:=okG u.1 /\ okG u.2.1 /\ okG u.2.2
theorem mul_abs {a b m n:Int} (ha:-m <= a /\ a <= m) (hb:-n <= b /\ b <= n):-(m * n) <= a * b /\ a * b <= m * n:=by
 have h:(a * b).natAbs <= m.natAbs * n.natAbs:=by
  rw [Int.natAbs_mul];exact Nat.mul_le_mul (by omega) (by omega)
 have e:((m.natAbs * n.natAbs:Nat):Int) = m * n:=by
  rw [Int.natCast_mul,Int.natAbs_of_nonneg (by omega),Int.natAbs_of_nonneg (by omega)]
 omega
theorem crs_num {a b:Px} {x y:Int} (ha:okG a) (hb:okG b) (hx:big x) (hy:big y) :
  (-1152930301087046400 <= (b.1 - a.1) * (y - a.2.1) /\ (b.1 - a.1) * (y - a.2.1) <= 1152930301087046400) /\ (-1152930301087046400 <= (b.2.1 - a.2.1) * (x - a.1) /\ (b.2.1 - a.2.1) * (x - a.1) <= 1152930301087046400):=by
 obtain ⟨⟨a1,a2⟩,a3,a4⟩:=ha;obtain ⟨⟨b1,b2⟩,b3,b4⟩:=hb;obtain ⟨x1,x2⟩:=hx;obtain ⟨y1,y2⟩:=hy;have h1:=mul_abs (a:=b.1 - a.1) (b:=y - a.2.1) (m:=1073745920) (n:=1073745920) (by omega) (by omega)
 have h2:=mul_abs (a:=b.2.1 - a.2.1) (b:=x - a.1) (m:=1073745920) (n:=1073745920) (by omega) (by omega)
 omega
theorem crs_g {a b:Px} {x y:Int} (ha:okG a) (hb:okG b) (hx:big x) (hy:big y):edge_Cross a b x y = some (crs a b x y):=by
 obtain ⟨h1,h2⟩:=crs_num ha hb hx hy;obtain ⟨⟨a1,a2⟩,a3,a4⟩:=ha;obtain ⟨⟨b1,b2⟩,b3,b4⟩:=hb;obtain ⟨x1,x2⟩:=hx;obtain ⟨y1,y2⟩:=hy;unfold edge_Cross;rw [bnd_eq,subI (a:=b.1) (by omega),bnd_eq,subI (a:=y) (by omega),bnd_eq,mulI (by omega),bnd_eq,subI (a:=b.2.1) (by omega),bnd_eq,subI (a:=x) (by omega),bnd_eq,mulI (by omega),bnd_eq,subI (by omega)]
 rfl
theorem area_g {u:Tri} (h:okG3 u):edge_Area u = some (area u):=by
 unfold edge_Area;rw [crs_g h.1 h.2.1 h.2.2.1 h.2.2.2,ob_some];rfl
def zt:Tri:=(pzS,(pzS,pzS))
def turn (u:Tri):Tri × Bool:=if area u = 0 then (zt,false) else if area u < 0 then ((u.1,(u.2.2,u.2.1)),true) else (u,true)
theorem area_swap (u:Tri):area (u.1,(u.2.2,u.2.1)) = -area u:=by
 unfold area crs
 grind
theorem turned_g {u:Tri} (h:okG3 u):edge_Turned u = some (turn u):=by
 unfold edge_Turned turn;rw [area_g h,ob_some,bnd_eq];by_cases h0:area u = 0
 ·rw [eq_t h0,bite_t,if_pos h0]; rfl
 ·rw [eq_f h0,bite_f,if_neg h0,bnd_eq];by_cases h1:area u < 0
  ·rw [lt_t h1,bite_t,if_pos h1]
  ·rw [lt_f (by omega),bite_f,if_neg h1]
theorem turn_pos {u:Tri} (h:okG3 u) (ht:(turn u).2 = true):0 < area (turn u).1 /\ okG3 (turn u).1:=by
 unfold turn at ht ⊢;split at ht
 ·cases ht
 ·rename_i h0;rw [if_neg h0];split
  ·rename_i h1;refine ⟨?_,h.1,h.2.2,h.2.1⟩;show 0 < area (u.1,(u.2.2,u.2.1));rw [area_swap];omega
  ·exact ⟨by show 0 < area u; omega,h⟩
/-! ### Parts -/
def ptAt (pts:List Px) (k:Nat):Px:=pts.getD k pzS
def tri3 (pts:List Px) (k:Nat):Tri:=(ptAt pts 0,(ptAt pts (k - 1),ptAt pts k))
def piece (pts:List Px) (k:Nat):List (Int × Tri):=if (turn (tri3 pts k)).2 then [((k:Int) - 2,(turn (tri3 pts k)).1)] else []
def fan (pts:List Px):List (Int × Tri):=(List.range' 2 (pts.length - 2)).flatMap (piece pts)
theorem ptAt_get {pts:List Px} {k:Nat} (h:k < pts.length):ptAt pts k = pts[k]:=by
 unfold ptAt;rw [List.getD_eq_getElem?_getD,List.getElem?_eq_getElem h];rfl
theorem ptAt_ok {pts:List Px} (hp:∀ p ∈ pts,okG p) (k:Nat):okG (ptAt pts k):=by
 unfold ptAt;rw [List.getD_eq_getElem?_getD];cases h:pts[k]? with
 | none=>exact ⟨⟨by decide,by decide⟩,⟨by decide,by decide⟩⟩
 | some p=>exact hp p (List.mem_of_getElem? h)
theorem tri3_ok {pts:List Px} (hp:∀ p ∈ pts,okG p) (k:Nat):okG3 (tri3 pts k):=⟨ptAt_ok hp _,ptAt_ok hp _,ptAt_ok hp _⟩
theorem piece_len (pts:List Px) (k:Nat):(piece pts k).length <= 1:=by
 unfold piece;split <;> simp
theorem pieces_len (pts:List Px):∀ (m k:Nat),((List.range' k m).flatMap (piece pts)).length <= m
 | 0,k=>by simp
 | m + 1,k=>by
  have h1:=piece_len pts k;have h2:=pieces_len pts m (k + 1);rw [List.range'_succ,List.flatMap_cons,List.length_append];omega
theorem fan_loop (fl:Nat) {pts:List Px} (hp:∀ p ∈ pts,okG p) (hlen:pts.length <= 10000):∀ (m k n:Nat) (acc:List (Int × Tri)),m = pts.length - k -> 2 <= k -> m + 1 <= n -> acc.length <= k ->
  setup_Parts_l1 fl n pts acc (k:Int) = some (acc ++ (List.range' k m).flatMap (piece pts),())
 | m,k,0,acc,_,_,h,_=>by omega
 | 0,k,n + 1,acc,hm,hk,hn,ha=>by
  rw [setup_Parts_l1,bnd_eq,lenK,bnd_eq,lt_f (by omega),bite_f]
  simp
 | m + 1,k,n + 1,acc,hm,hk,hn,ha=>by
  have h0:0 < pts.length:=by omega
  have h1:k - 1 < pts.length:=by omega
  have h2:k < pts.length:=by omega
  have ht:=tri3_ok hp k;have et:((pts[0],(pts[k - 1],pts[k])):Tri) = tri3 pts k:=by
   unfold tri3;rw [ptAt_get h0,ptAt_get h1,ptAt_get h2]
  have g0:F.get pts 0 = some pts[0]:=lgetI (k:=0) rfl h0;rw [setup_Parts_l1,bnd_eq,lenK,bnd_eq,lt_t (by omega),bite_t,g0,ob_some,bnd_eq,subI (by omega),lgetI (k:=k - 1) (by omega) h1,ob_some,lgetK h2,ob_some,et,turned_g ht,ob_some,List.range'_succ,List.flatMap_cons]
  by_cases hb:(turn (tri3 pts k)).2 = true
  ·have ep:piece pts k = [((k:Int) - 2,(turn (tri3 pts k)).1)]:=if_pos hb;have ih:=fan_loop fl hp hlen m (k + 1) n (acc ++ [((k:Int) - 2,(turn (tri3 pts k)).1)]) (by omega) (by omega) (by omega) (by simp; omega)
   rw [hb,bite_t,bnd_eq,subI (by omega),appOk_t (by simp; omega) (by decide),bgd_t,bnd_eq,appK,bnd_eq,addI (by omega),ep]
   rw [show ((k + 1:Nat):Int) = (k:Int) + 1 by omega] at ih
   rw [ih,List.append_assoc]
  ·have ep:piece pts k = []:=if_neg hb;have hb0:(turn (tri3 pts k)).2 = false:=by simpa using hb
   have ih:=fan_loop fl hp hlen m (k + 1) n acc (by omega) (by omega) (by omega) (by omega)
   rw [hb0,bite_f,bnd_eq,addI (by omega),ep]
   rw [show ((k + 1:Nat):Int) = (k:Int) + 1 by omega] at ih
   rw [ih];rfl
def ptsL (w h:Int) (l:List Vtx):List Px:=if l.all (onS w h) then l.map (ptS w h) else []
theorem okV_of {v:Vtx} (h:okB v):okV v:=⟨h.1,h.2.1,h.2.2.1,h.2.2.2.1⟩
theorem ptS_ok {w h:Int} {v:Vtx} (hw:1 <= w /\ w <= 64) (hh:1 <= h /\ h <= 64) (hv:okB v) (hW:1 <= v.2.2.2.1):okG (ptS w h v):=by
 obtain ⟨h1,h2,_⟩:=hv;have p1:=mul_in (a:=v.1) (b:=8 * w) (m:=1048576) (n:=512) h1 (by omega)
 have p2:=mul_in (a:=v.2.1) (b:=8 * h) (m:=1048576) (n:=512) h2 (by omega)
 have l1:=fdiv_lim (p:=v.1 * (8 * w)) (c:=v.2.2.2.1) (m:=536870912) (by omega) (by omega) (by omega) (by decide)
 have l2:=fdiv_lim (p:=v.2.1 * (8 * h)) (c:=v.2.2.2.1) (m:=536870912) (by omega) (by omega) (by omega) (by decide)
 unfold ptS;refine ⟨⟨?_,?_⟩,⟨?_,?_⟩⟩ <;> (simp only; omega)
theorem ptsL_ok {w h:Int} {l:List Vtx} (hw:1 <= w /\ w <= 64) (hh:1 <= h /\ h <= 64) (hl:∀ v ∈ l,okB v):∀ p ∈ ptsL w h l,okG p:=fun p hp=>by
 unfold ptsL at hp;split at hp
 ·rename_i ha;obtain ⟨v,hv,rfl⟩:=List.mem_map.1 hp;rw [List.all_eq_true] at ha;exact ptS_ok hw hh (hl v hv) (of_decide_eq_true (ha v hv)).2.2
 ·cases hp
theorem ptsL_length (w h:Int) (l:List Vtx):(ptsL w h l).length <= l.length:=by
 unfold ptsL;split <;> simp
theorem poly_okB {l:List Vtx} (hl:∀ v ∈ l,okB v) (hlen:l.length <= 100):∀ v ∈ polyL l,okB v:=fun v hv=>by
 unfold polyL at hv;split at hv
 ·cases hv
 ·exact (chain hl hlen).2.2.2.2.1 v hv
theorem poly_len {l:List Vtx} (hl:l.length = 3):(polyL l).length <= 19:=by
 have h0:=half 0 l;have h1:=half 1 (byL 0 l);have h2:=half 2 (byL 1 (byL 0 l));have h3:=half 3 (byL 2 (byL 1 (byL 0 l)));have h4:=half 4 (byL 3 (byL 2 (byL 1 (byL 0 l))));unfold polyL;split
 ·simp
 ·unfold allL;omega
theorem pts_fst (w h:Int) (l:List Vtx):(if l.all (onS w h) then (l.map (ptS w h),true) else ([],false)).1 = ptsL w h l:=by
 unfold ptsL;cases l.all (onS w h) <;> rfl
theorem parts_of {fl:Nat} (hfl:5000 <= fl) {w h:Int} (hw:1 <= w /\ w <= 64) (hh:1 <= h /\ h <= 64) {u:Vtx × Vtx × Vtx} {l:List Vtx} (hp:∀ v ∈ l,okB v) (hn:l.length <= 19) (e:clip_Poly fl [u.1,u.2.1,u.2.2] = some l):setup_Parts fl w h u = some (fan (ptsL w h l)):=by
 have hpts:=ptsL_ok hw hh hp;have hpl:=ptsL_length w h l;have lp:=fan_loop fl hpts (by omega) ((ptsL w h l).length - 2) 2 fl [] rfl (by omega) (by omega) (by simp)
 rw [show ((2:Nat):Int) = 2 from rfl,List.nil_append] at lp;unfold setup_Parts;rw [e,ob_some,points_S (fun v hv=>okV_of (hp v hv)) (by omega) (by omega),ob_some,pts_fst,lp,ob_some]
 rfl
theorem parts_spec {fl:Nat} (hfl:5000 <= fl) {w h:Int} (hw:1 <= w /\ w <= 64) (hh:1 <= h /\ h <= 64) {a b c:Vtx} (ha:okB a) (hb:okB b) (hc:okB c):setup_Parts fl w h (a,(b,c)) = some (fan (ptsL w h (polyL [a,b,c]))):=by
 have hl:∀ v ∈ [a,b,c],okB v:=fun v hv=>by
  simp only [List.mem_cons,List.not_mem_nil,or_false] at hv;rcases hv with rfl | rfl | rfl <;> assumption
 exact parts_of hfl hw hh (poly_okB hl (by simp)) (poly_len rfl) (poly_spec hl (by simp) hfl)
/-! ### Boxes -/
theorem pixel_spec (fl:Nat) {x:Int} (h:-4611686018427387904 <= x /\ x <= 4611686018427387904):view_Pixel fl x = some (x / 16):=by
 unfold view_Pixel fixed_Floor;rw [mulDiv_spec fl (by omega) (by decide) (by omega) (by decide) (by decide),ob_some,ob_some,Int.mul_one,Int.fdiv_eq_ediv_of_nonneg _ (by decide)]
def sideLo (a b c:Int):Int:=max (min (min a b) c / 16) 0
def sideHi (w a b c:Int):Int:=min (max (max a b) c / 16 + 1) w
theorem side_is (fl:Nat) {w a b c:Int} (ha:big a) (hb:big b) (hc:big c):setup_side fl w a b c = some (sideLo a b c,sideHi w a b c):=by
 obtain ⟨a1,a2⟩:=ha;obtain ⟨b1,b2⟩:=hb;obtain ⟨c1,c2⟩:=hc;unfold setup_side;rw [bnd_eq,f_min,f_min,pixel_spec fl (by omega),ob_some,bnd_eq,f_max,bnd_eq,f_max,f_max,pixel_spec fl (by omega),ob_some,bnd_eq,addI (by omega),bnd_eq,f_min]
 rfl
theorem box_is (fl:Nat) {w h:Int} {u:Tri} (hu:okG3 u):setup_Box fl w h u = some (sideLo u.1.1 u.2.1.1 u.2.2.1,(sideLo u.1.2.1 u.2.1.2.1 u.2.2.2.1,(sideHi w u.1.1 u.2.1.1 u.2.2.1,sideHi h u.1.2.1 u.2.1.2.1 u.2.2.2.1))):=by
 obtain ⟨⟨a1,a2⟩,⟨b1,b2⟩,c1,c2⟩:=hu;unfold setup_Box;rw [side_is fl a1 b1 c1,ob_some,side_is fl a2 b2 c2,ob_some]
end Go.Proofs.Ytkacojopcajboaa.G
namespace Go.Proofs.Ytkacojopcajboaa.G
open Go Go.RowKit Go.Proofs.Ytkacojopcajboaa.M
def frst (a b:Px):Bool:=if a.2.1 = b.2.1 then decide (a.1 < b.1) else decide (b.2.1 < a.2.1)
theorem frst_is (a b:Px):edge_First a b = some (frst a b):=by
 unfold edge_First frst;simp only [bnd_eq];by_cases h:a.2.1 = b.2.1
 ·rw [eq_t h,bite_t,if_pos h];rfl
 ·rw [eq_f h,bite_f,if_neg h];rfl
def onIn (a b:Px) (x y:Int):Bool:=decide (0 < crs a b x y) || (decide (crs a b x y = 0) && frst a b)
def insT (u:Tri) (x y:Int):Bool:=decide (0 < area u) && (onIn u.1 u.2.1 x y && (onIn u.2.1 u.2.2 x y && onIn u.2.2 u.1 x y))
theorem in_step (fl n:Nat) {p q r a b:Px} {x y i i':Int} (hi:F.lt i 3 = true) (hw:F.within i 3 = true) (hg:F.get [p,q,r] i = some a) (h':F.rem (F.add .i64 i 1) 3 = i') (hw':F.within i' 3 = true) (hg':F.get [p,q,r] i' = some b)
  (ha:okG a) (hb:okG b) (hx:big x) (hy:big y):edge_In_l1 fl (n + 1) x y i p.1 p.2.1 p.2.2.1 p.2.2.2.1 p.2.2.2.2.1 p.2.2.2.2.2.1 p.2.2.2.2.2.2 q.1 q.2.1 q.2.2.1 q.2.2.2.1 q.2.2.2.2.1 q.2.2.2.2.2.1 q.2.2.2.2.2.2 r.1 r.2.1 r.2.2.1 r.2.2.2.1 r.2.2.2.2.1 r.2.2.2.2.2.1 r.2.2.2.2.2.2 = if onIn a b x y then edge_In_l1 fl n x y (F.add .i64 i 1) p.1 p.2.1 p.2.2.1 p.2.2.2.1 p.2.2.2.2.1 p.2.2.2.2.2.1 p.2.2.2.2.2.2 q.1 q.2.1 q.2.2.1 q.2.2.2.1 q.2.2.2.2.1 q.2.2.2.2.2.1 q.2.2.2.2.2.2 r.1 r.2.1 r.2.2.1 r.2.2.2.1 r.2.2.2.2.1 r.2.2.2.2.2.1 r.2.2.2.2.2.2 else some (.inl ()):=by
 rw [edge_In_l1,bnd_eq,hi,bite_t,hw,bgd_t];have hg1:F.get [(p.1,(p.2.1,(p.2.2.1,(p.2.2.2.1,(p.2.2.2.2.1,(p.2.2.2.2.2.1,p.2.2.2.2.2.2)))))),(q.1,(q.2.1,(q.2.2.1,(q.2.2.2.1,(q.2.2.2.2.1,(q.2.2.2.2.2.1,q.2.2.2.2.2.2)))))),(r.1,(r.2.1,(r.2.2.1,(r.2.2.2.1,(r.2.2.2.2.1,(r.2.2.2.2.2.1,r.2.2.2.2.2.2))))))] i = some a:=hg;have hg2:F.get [(p.1,(p.2.1,(p.2.2.1,(p.2.2.2.1,(p.2.2.2.2.1,(p.2.2.2.2.2.1,p.2.2.2.2.2.2)))))),(q.1,(q.2.1,(q.2.2.1,(q.2.2.2.1,(q.2.2.2.2.1,(q.2.2.2.2.2.1,q.2.2.2.2.2.2)))))),(r.1,(r.2.1,(r.2.2.1,(r.2.2.2.1,(r.2.2.2.2.1,(r.2.2.2.2.2.1,r.2.2.2.2.2.2))))))] i' = some b:=hg';rw [hg1,ob_some,bnd_eq,bnd_eq,h',hw',bgd_t,hg2,ob_some,crs_g ha hb hx hy,ob_some,bnd_eq];unfold onIn;by_cases h1:crs a b x y < 0
 ·rw [lt_t h1,bite_t,if_neg];simp only [Bool.or_eq_true,Bool.and_eq_true,decide_eq_true_eq];omega
 ·rw [lt_f (by omega),bite_f,bnd_eq]
  by_cases h2:crs a b x y = 0
  ·rw [eq_t h2,bite_t,frst_is,ob_some,bnd_eq];cases hf:frst a b with
   | true=>
    rw [show F.not true = false from rfl,bite_f,bnd_eq,if_pos (by simp [h2])]
   | false=>
    rw [show F.not false = true from rfl,bite_t,if_neg (by simp [h2])]
  ·rw [eq_f h2,bite_f,bnd_eq,if_pos (by simp only [Bool.or_eq_true,decide_eq_true_eq]; left; omega)]
theorem edge_in {fl:Nat} (hfl:4 <= fl) {u:Tri} (hu:okG3 u) {x y:Int} (hx:big x) (hy:big y):edge_In fl u x y = some (insT u x y):=by
 obtain ⟨n,rfl⟩:∃ n,fl = n + 4:=⟨fl - 4,by omega⟩
 unfold edge_In insT;rw [area_g hu,ob_some,bnd_eq];by_cases ha:area u <= 0
 ·rw [le_t ha,bite_t,decide_eq_false (by omega)]
  rfl
 ·rw [le_f (by omega),bite_f,decide_eq_true (by omega),Bool.true_and]
  obtain ⟨p,q,r⟩:=u;have h1:=in_step (n + 4) (n + 3) (p:=p) (q:=q) (r:=r) (a:=p) (b:=q) (x:=x) (y:=y) (i:=0) (i':=1) rfl rfl rfl rfl rfl rfl hu.1 hu.2.1 hx hy;have h2:=in_step (n + 4) (n + 2) (p:=p) (q:=q) (r:=r) (a:=q) (b:=r) (x:=x) (y:=y) (i:=1) (i':=2) rfl rfl rfl rfl rfl rfl hu.2.1 hu.2.2 hx hy;have h3:=in_step (n + 4) (n + 1) (p:=p) (q:=q) (r:=r) (a:=r) (b:=p) (x:=x) (y:=y) (i:=2) (i':=0) rfl rfl rfl rfl rfl rfl hu.2.2 hu.1 hx hy;have h4:edge_In_l1 (n + 4) (n + 1) x y (F.add .i64 2 1) p.1 p.2.1 p.2.2.1 p.2.2.2.1 p.2.2.2.2.1 p.2.2.2.2.2.1 p.2.2.2.2.2.2 q.1 q.2.1 q.2.2.1 q.2.2.2.1 q.2.2.2.2.1 q.2.2.2.2.2.1 q.2.2.2.2.2.2 r.1 r.2.1 r.2.2.1 r.2.2.2.1 r.2.2.2.2.1 r.2.2.2.2.2.1 r.2.2.2.2.2.2 = some (.inr ()):=by
   rw [edge_In_l1,bnd_eq];rfl
  dsimp only at h1 h2 h3 h4 ⊢;rw [show F.add .i64 0 1 = 1 from rfl] at h1;rw [show F.add .i64 1 1 = 2 from rfl] at h2;rw [h1];cases onIn p q x y
  ·rfl
  ·rw [if_pos rfl,h2];cases onIn q r x y
   ·rfl
   ·rw [if_pos rfl,h3];cases onIn r p x y
    ·rfl
    ·rw [if_pos rfl,h4];rfl
/-! ### A pixel's samples -/
theorem tz15:bits_TrailingZeros8 15 = some 0:=by decide +kernel
theorem tz14:bits_TrailingZeros8 14 = some 1:=by decide +kernel
theorem tz12:bits_TrailingZeros8 12 = some 2:=by decide +kernel
theorem tz8:bits_TrailingZeros8 8 = some 3:=by decide +kernel
theorem smp {x y:Int} (hx:-1000 <= x /\ x <= 1000) (hy:-1000 <= y /\ y <= 1000):cover_Sample x y 0 = some (16 * x + 2,16 * y + 6) /\ cover_Sample x y 1 = some (16 * x + 6,16 * y + 14) /\ cover_Sample x y 2 = some (16 * x + 10,16 * y + 2) /\ cover_Sample x y 3 = some (16 * x + 14,16 * y + 10):=by
 have e0:cover_places 0 = some (2,6):=rfl;have e1:cover_places 1 = some (6,14):=rfl;have e2:cover_places 2 = some (10,2):=rfl;have e3:cover_places 3 = some (14,10):=rfl;unfold cover_Sample;refine ⟨?_,?_,?_,?_⟩
 ·rw [e0,ob_some]; simp only [bnd_eq]; rw [mulI (by omega),mulI (by omega),addI (by omega),addI (by omega)]
 ·rw [e1,ob_some]; simp only [bnd_eq]; rw [mulI (by omega),mulI (by omega),addI (by omega),addI (by omega)]
 ·rw [e2,ob_some]; simp only [bnd_eq]; rw [mulI (by omega),mulI (by omega),addI (by omega),addI (by omega)]
 ·rw [e3,ob_some]; simp only [bnd_eq]; rw [mulI (by omega),mulI (by omega),addI (by omega),addI (by omega)]
def bitI (b:Bool) (k:Int):Int:=if b then k else 0
def maskT (u:Tri) (x y:Int):Int:=bitI (insT u (16 * x + 2) (16 * y + 6)) 1 + (bitI (insT u (16 * x + 6) (16 * y + 14)) 2 + (bitI (insT u (16 * x + 10) (16 * y + 2)) 4 + bitI (insT u (16 * x + 14) (16 * y + 10)) 8))
theorem mask_step (fl n:Nat) {p q r:Px} {x y m i a b left left' z:Int} {g:Bool} (hl:F.gt left 0 = true) (ht:bits_TrailingZeros8 left = some i) (hs:cover_Sample x y i = some (a,b)) (hi:edge_In fl (p,(q,r)) a b = some g) (hn:F.nonneg i = true) (hd:F.and .u8 left (F.sub .u8 left 1) = left') :
  cover_Mask_i60_l1 fl (n + 1) left z p.1 p.2.1 p.2.2.1 p.2.2.2.1 p.2.2.2.2.1 p.2.2.2.2.2.1 p.2.2.2.2.2.2 q.1 q.2.1 q.2.2.1 q.2.2.2.1 q.2.2.2.2.1 q.2.2.2.2.2.1 q.2.2.2.2.2.2 r.1 r.2.1 r.2.2.1 r.2.2.2.1 r.2.2.2.2.1 r.2.2.2.2.2.1 r.2.2.2.2.2.2 x y m = cover_Mask_i60_l1 fl n left' z p.1 p.2.1 p.2.2.1 p.2.2.2.1 p.2.2.2.2.1 p.2.2.2.2.2.1 p.2.2.2.2.2.2 q.1 q.2.1 q.2.2.1 q.2.2.2.1 q.2.2.2.2.1 q.2.2.2.2.2.1 q.2.2.2.2.2.2 r.1 r.2.1 r.2.2.1 r.2.2.2.1 r.2.2.2.2.1 r.2.2.2.2.2.1 r.2.2.2.2.2.2 x y (if g then F.or .u8 m (F.shl .u8 1 i) else m):=by
 rw [cover_Mask_i60_l1,bnd_eq,hl,bite_t,ht,ob_some,hs,ob_some];have hi':edge_In fl ((p.1,(p.2.1,(p.2.2.1,(p.2.2.2.1,(p.2.2.2.2.1,(p.2.2.2.2.2.1,p.2.2.2.2.2.2)))))),((q.1,(q.2.1,(q.2.2.1,(q.2.2.2.1,(q.2.2.2.2.1,(q.2.2.2.2.2.1,q.2.2.2.2.2.2)))))),(r.1,(r.2.1,(r.2.2.1,(r.2.2.2.1,(r.2.2.2.2.1,(r.2.2.2.2.2.1,r.2.2.2.2.2.2)))))))) a b = some g:=hi;rw [hi',ob_some];cases g
 ·rw [bite_f,bnd_eq,bnd_eq,hd];rfl
 ·rw [bite_t,hn,bgd_t,bnd_eq,bnd_eq,bnd_eq,bnd_eq,hd];rfl
theorem mask_is {fl:Nat} (hfl:5 <= fl) {u:Tri} (hu:okG3 u) {x y:Int} (hx:-1000 <= x /\ x <= 1000) (hy:-1000 <= y /\ y <= 1000):cover_Mask fl u x y = some (maskT u x y):=by
 obtain ⟨n,rfl⟩:∃ n,fl = n + 5:=⟨fl - 5,by omega⟩
 obtain ⟨s0,s1,s2,s3⟩:=smp hx hy;have bg:∀ {z:Int} (k:Int),-1000 <= z /\ z <= 1000 -> 0 <= k /\ k <= 16 -> big (16 * z + k):=fun k h1 h2=>⟨by omega,by omega⟩
 have i0:=edge_in (fl:=n + 5) (by omega) hu (bg 2 hx (by decide)) (bg 6 hy (by decide))
 have i1:=edge_in (fl:=n + 5) (by omega) hu (bg 6 hx (by decide)) (bg 14 hy (by decide))
 have i2:=edge_in (fl:=n + 5) (by omega) hu (bg 10 hx (by decide)) (bg 2 hy (by decide))
 have i3:=edge_in (fl:=n + 5) (by omega) hu (bg 14 hx (by decide)) (bg 10 hy (by decide))
 obtain ⟨p,q,r⟩:=u;have e0:=fun m=>mask_step (n + 5) (n + 4) (p:=p) (q:=q) (r:=r) (x:=x) (y:=y) (m:=m) (left:=15) (left':=14) (z:=15) rfl tz15 s0 i0 rfl (by decide +kernel)
 have e1:=fun m=>mask_step (n + 5) (n + 3) (p:=p) (q:=q) (r:=r) (x:=x) (y:=y) (m:=m) (left:=14) (left':=12) (z:=15) rfl tz14 s1 i1 rfl (by decide +kernel)
 have e2:=fun m=>mask_step (n + 5) (n + 2) (p:=p) (q:=q) (r:=r) (x:=x) (y:=y) (m:=m) (left:=12) (left':=8) (z:=15) rfl tz12 s2 i2 rfl (by decide +kernel)
 have e3:=fun m=>mask_step (n + 5) (n + 1) (p:=p) (q:=q) (r:=r) (x:=x) (y:=y) (m:=m) (left:=8) (left':=0) (z:=15) rfl tz8 s3 i3 rfl (by decide +kernel)
 unfold cover_Mask cover_Bits maskT;rw [ob_some,bnd_eq,show F.and .u8 15 15 = 15 by decide +kernel]
 try dsimp only
 try dsimp only at e0 e1 e2 e3
 rw [e0,e1,e2,e3,cover_Mask_i60_l1,bnd_eq,show F.gt 0 0 = false from rfl,bite_f,ob_some];cases insT (p,(q,r)) (16 * x + 2) (16 * y + 6) <;> cases insT (p,(q,r)) (16 * x + 6) (16 * y + 14) <;> cases insT (p,(q,r)) (16 * x + 10) (16 * y + 2) <;> cases insT (p,(q,r)) (16 * x + 14) (16 * y + 10) <;> (dsimp only [bitI]; exact congrArg some (by decide +kernel))
end Go.Proofs.Ytkacojopcajboaa.G
namespace Go.Proofs.Ytkacojopcajboaa.PL
open Go Go.RowKit Go.Proofs.Ytkacojopcajboaa.M Go.Proofs.Ytkacojopcajboaa.G Go.Proofs.Ytkacojopcajboaa.PL
theorem mul_in2 {a b m n:Int} (ha:-m <= a /\ a <= m) (hb:-n <= b /\ b <= n):-(m * n) <= a * b /\ a * b <= m * n:=by
 have hm:0 <= m:=by omega
 have hn:0 <= n:=by omega
 rcases Int.le_total 0 b with h | h
 ·have h1:a * b <= m * b:=Int.mul_le_mul_of_nonneg_right ha.2 h;have h2:m * b <= m * n:=Int.mul_le_mul_of_nonneg_left hb.2 hm;have h3:-m * b <= a * b:=Int.mul_le_mul_of_nonneg_right ha.1 h;rw [Int.neg_mul] at h3;omega
 ·have h1:a * (-b) <= m * (-b):=Int.mul_le_mul_of_nonneg_right ha.2 (by omega)
  have h2:m * (-b) <= m * n:=Int.mul_le_mul_of_nonneg_left (by omega) hm
  have h3:-m * (-b) <= a * (-b):=Int.mul_le_mul_of_nonneg_right ha.1 (by omega)
  rw [Int.mul_neg] at h1 h2 h3;rw [Int.mul_neg] at h1 h3;rw [Int.neg_mul] at h3;omega
abbrev Pt:=Int × Int × Int × Int × Int × Int × Int
abbrev Tri:=Pt × Pt × Pt
def crs (a b:Pt) (x y:Int):Int:=(b.1 - a.1) * (y - a.2.1) - (b.2.1 - a.2.1) * (x - a.1)
def area (u:Tri):Int:=crs u.1 u.2.1 u.2.2.1 u.2.2.2.1
def near (n:Int):Prop:=-16384 <= n /\ n <= 16384
def okP (p:Pt):Prop:=near p.1 /\ near p.2.1
def okTri (u:Tri):Prop:=okP u.1 /\ okP u.2.1 /\ okP u.2.2
theorem crs_in {a b:Pt} {x y:Int} (ha:okP a) (hb:okP b) (hx:near x) (hy:near y):-2147483648 <= crs a b x y /\ crs a b x y <= 2147483648:=by
 obtain ⟨⟨a1,a2⟩,a3,a4⟩:=ha;obtain ⟨⟨b1,b2⟩,b3,b4⟩:=hb;obtain ⟨x1,x2⟩:=hx;obtain ⟨y1,y2⟩:=hy;have h1:=mul_in2 (a:=b.1 - a.1) (b:=y - a.2.1) (m:=32768) (n:=32768) (by omega) (by omega)
 have h2:=mul_in2 (a:=b.2.1 - a.2.1) (b:=x - a.1) (m:=32768) (n:=32768) (by omega) (by omega)
 unfold crs;omega
theorem crs_run {a b:Pt} {x y:Int} (ha:okP a) (hb:okP b) (hx:near x) (hy:near y) :
  F.sub .i64 (F.mul .i64 (F.sub .i64 b.1 a.1) (F.sub .i64 y a.2.1)) (F.mul .i64 (F.sub .i64 b.2.1 a.2.1) (F.sub .i64 x a.1)) = crs a b x y:=by
 have h:=crs_in ha hb hx hy;obtain ⟨⟨a1,a2⟩,a3,a4⟩:=ha;obtain ⟨⟨b1,b2⟩,b3,b4⟩:=hb;obtain ⟨x1,x2⟩:=hx;obtain ⟨y1,y2⟩:=hy;have h1:=mul_in2 (a:=b.1 - a.1) (b:=y - a.2.1) (m:=32768) (n:=32768) (by omega) (by omega)
 have h2:=mul_in2 (a:=b.2.1 - a.2.1) (b:=x - a.1) (m:=32768) (n:=32768) (by omega) (by omega)
 unfold crs at h ⊢;rw [subI (a:=b.1) (by omega),subI (a:=y) (by omega),mulI (by omega),subI (a:=b.2.1) (by omega),subI (a:=x) (by omega),mulI (by omega),subI (by omega)]
theorem edge_cross {a b:Pt} {x y:Int} (ha:okP a) (hb:okP b) (hx:near x) (hy:near y):edge_Cross a b x y = some (crs a b x y):=by
 unfold edge_Cross;simp only [bnd_eq];rw [crs_run ha hb hx hy]
theorem edge_area {u:Tri} (hu:okTri u):edge_Area u = some (area u):=by
 unfold edge_Area;rw [edge_cross hu.1 hu.2.1 hu.2.2.1 hu.2.2.2];rfl
theorem area_in {u:Tri} (hu:okTri u):-2147483648 <= area u /\ area u <= 2147483648:=crs_in hu.1 hu.2.1 hu.2.2.1 hu.2.2.2
def weigh (u:Tri) (n:Int × Int × Int) (x y:Int):Int:=n.1 * crs u.2.1 u.2.2 x y + n.2.1 * crs u.2.2 u.1 x y + n.2.2 * crs u.1 u.2.1 x y
def small30 (n:Int):Prop:=-1073800001 <= n /\ n <= 1073800001
theorem at_flat (fl:Nat) {u:Tri} {n:Int × Int × Int} {x y:Int} (hu:okTri u) (ha:area u <= 0):plane_At fl u n x y = some 0:=by
 unfold plane_At;rw [edge_area hu];simp only [ob_some,bnd_eq];rw [le_t ha];rfl
theorem at_is (fl:Nat) {u:Tri} {n:Int × Int × Int} {x y:Int} (hu:okTri u) (ha:0 < area u) (h1:small30 n.1) (h2:small30 n.2.1) (h3:small30 n.2.2) (hx:near x) (hy:near y) :
  plane_At fl u n x y = some (Int.fdiv (weigh u n x y) (area u)):=by
 unfold plane_At;rw [edge_area hu];simp only [ob_some,bnd_eq];rw [le_f ha];simp only [bite_f];rw [edge_cross hu.2.1 hu.2.2 hx hy,edge_cross hu.2.2 hu.1 hx hy,edge_cross hu.1 hu.2.1 hx hy];simp only [ob_some];unfold weigh;have hA:=area_in hu;have i0:=crs_in hu.2.1 hu.2.2 hx hy;have i1:=crs_in hu.2.2 hu.1 hx hy;have i2:=crs_in hu.1 hu.2.1 hx hy;obtain ⟨A,eA⟩:∃ A,A = area u:=⟨_,rfl⟩
 obtain ⟨w0,e0⟩:∃ A,A = crs u.2.1 u.2.2 x y:=⟨_,rfl⟩
 obtain ⟨w1,e1⟩:∃ A,A = crs u.2.2 u.1 x y:=⟨_,rfl⟩
 obtain ⟨w2,e2⟩:∃ A,A = crs u.1 u.2.1 x y:=⟨_,rfl⟩
 rw [<- eA] at hA ha ⊢;rw [<- e0] at i0 ⊢;rw [<- e1] at i1 ⊢;rw [<- e2] at i2 ⊢;clear e0 e1 e2 eA;obtain ⟨k0,k1,k2⟩:=n;have h1:-1073800001 <= k0 /\ k0 <= 1073800001:=h1;have h2:-1073800001 <= k1 /\ k1 <= 1073800001:=h2;have h3:-1073800001 <= k2 /\ k2 <= 1073800001:=h3;dsimp only;have p0:=mul_in2 (a:=k0) (b:=w0) h1 (n:=2147483648) (by omega)
 have p1:=mul_in2 (a:=k1) (b:=w1) h2 (n:=2147483648) (by omega)
 have p2:=mul_in2 (a:=k2) (b:=w2) h3 (n:=2147483648) (by omega)
 rw [mulDiv_spec fl (a:=k0) (b:=w0) (by omega) (by omega) (by omega) (by omega) (by omega),mulDiv_spec fl (a:=k1) (b:=w1) (by omega) (by omega) (by omega) (by omega) (by omega),mulDiv_spec fl (a:=k2) (b:=w2) (by omega) (by omega) (by omega) (by omega) (by omega)]
 simp only [ob_some];rw [mulI (a:=k0) (by omega),mulI (a:=k1) (by omega),mulI (a:=k2) (by omega)]
 obtain ⟨P,eP⟩:∃ A,A = k0 * w0:=⟨_,rfl⟩
 obtain ⟨Q,eQ⟩:∃ A,A = k1 * w1:=⟨_,rfl⟩
 obtain ⟨R,eR⟩:∃ A,A = k2 * w2:=⟨_,rfl⟩
 rw [<- eP] at p0 ⊢;rw [<- eQ] at p1 ⊢;rw [<- eR] at p2 ⊢;have l0:=fdiv_lim (p:=P) ha p0.1 p0.2 (by decide)
 have l1:=fdiv_lim (p:=Q) ha p1.1 p1.2 (by decide)
 have l2:=fdiv_lim (p:=R) ha p2.1 p2.2 (by decide)
 have d0:=fdiv_in (p:=P) ha;have d1:=fdiv_in (p:=Q) ha;have d2:=fdiv_in (p:=R) ha;rw [Int.mul_comm] at d0 d1 d2;obtain ⟨q0,f0⟩:∃ q,q = Int.fdiv P A:=⟨_,rfl⟩
 obtain ⟨q1,f1⟩:∃ q,q = Int.fdiv Q A:=⟨_,rfl⟩
 obtain ⟨q2,f2⟩:∃ q,q = Int.fdiv R A:=⟨_,rfl⟩
 rw [<- f0] at d0 l0 ⊢;rw [<- f1] at d1 l1 ⊢;rw [<- f2] at d2 l2 ⊢;rw [mulI (a:=q0) (by omega),mulI (a:=q1) (by omega),mulI (a:=q2) (by omega)]
 have dd:Int.fdiv (P + Q + R) A = q0 + q1 + q2 + (P - q0 * A + (Q - q1 * A) + (R - q2 * A)) / A:=by
  obtain ⟨m,hm⟩:∃ m,m = P - q0 * A + (Q - q1 * A) + (R - q2 * A):=⟨_,rfl⟩
  have e:P + Q + R = A * (q0 + q1 + q2) + m:=by rw [hm]; grind
  rw [e,<- hm,Int.fdiv_eq_ediv_of_nonneg _ (by omega),Int.mul_add_ediv_left _ _ (by omega)]
 rw [dd];obtain ⟨r0,g0⟩:∃ r,r = P - q0 * A:=⟨_,rfl⟩
 obtain ⟨r1,g1⟩:∃ r,r = Q - q1 * A:=⟨_,rfl⟩
 obtain ⟨r2,g2⟩:∃ r,r = R - q2 * A:=⟨_,rfl⟩
 have m0:0 <= r0 + r1 + r2:=by omega
 have m1:r0 + r1 + r2 <= 3 * A:=by omega
 have v:(r0 + r1 + r2) / A <= 3:=by
  have:=Int.ediv_le_ediv ha m1;rw [Int.mul_ediv_cancel _ (by omega)] at this
  exact this
 have v0:0 <= (r0 + r1 + r2) / A:=Int.ediv_nonneg m0 (by omega)
 rw [subI (a:=P) (by omega),subI (a:=Q) (by omega),subI (a:=R) (by omega),<- g0,<- g1,<- g2,addI (a:=0) (b:=q0) (by omega),addI (a:=0) (b:=r0) (by omega),addI (a:=0 + q0) (by omega),addI (a:=0 + r0) (by omega),addI (a:=0 + q0 + q1) (by omega),addI (a:=0 + r0 + r1) (by omega),nz_t (by omega),bgd_t]
 have hq:F.quo .i64 (0 + r0 + r1 + r2) A = (r0 + r1 + r2) / A:=by
  unfold F.quo;rw [show 0 + r0 + r1 + r2 = r0 + r1 + r2 by omega,Int.tdiv_eq_ediv_of_nonneg m0,wrapI (by omega) (by omega)]
 rw [hq,addI (by omega)]
 simp only [Int.zero_add]
def okZ (p:Pt):Prop:=(-1073800000 <= p.2.2.1 /\ p.2.2.1 <= 1073800000) /\ (-4096 <= p.2.2.2.1 /\ p.2.2.2.1 <= 4096) /\ (-4096 <= p.2.2.2.2.1 /\ p.2.2.2.2.1 <= 4096) /\ (-4096 <= p.2.2.2.2.2.1 /\ p.2.2.2.2.2.1 <= 4096) /\ (-4096 <= p.2.2.2.2.2.2 /\ p.2.2.2.2.2.2 <= 4096)
def okTriZ (u:Tri):Prop:=okZ u.1 /\ okZ u.2.1 /\ okZ u.2.2
end Go.Proofs.Ytkacojopcajboaa.PL
namespace Go.Proofs.Ytkacojopcajboaa.PL
open Go Go.RowKit Go.Proofs.Ytkacojopcajboaa.M Go.Proofs.Ytkacojopcajboaa.G Go.Proofs.Ytkacojopcajboaa.PL
def lowZ (u:Tri):Int:=min (min u.1.2.2.1 u.2.1.2.2.1) u.2.2.2.2.1
def highZ (u:Tri):Int:=max (max u.1.2.2.1 u.2.1.2.2.1) u.2.2.2.2.1
theorem centre_spec {x:Int} (hx:-512 <= x /\ x <= 512):view_Centre x = some (16 * x + 8):=by
 unfold view_Centre;simp only [bnd_eq];rw [mulI (by omega),addI (by omega)]
theorem each_spec (fl:Nat) {u:Tri} {x y:Int} (hx:-512 <= x /\ x <= 512) (hy:-512 <= y /\ y <= 512) :
  plane_each__2 fl u x y () = plane_At fl u (u.1.2.2.1,(u.2.1.2.2.1,u.2.2.2.2.1)) (16 * x + 8) (16 * y + 8):=by
 unfold plane_each__2 plane_Depth_1;rw [centre_spec hx,centre_spec hy,ob_some,ob_some,ob_some,ob_some,ob_some];generalize plane_At fl u (u.1.2.2.1,(u.2.1.2.2.1,u.2.2.2.2.1)) (16 * x + 8) (16 * y + 8) = r;cases r <;> rfl
theorem depth_spec (fl:Nat) {u:Tri} {x y:Int} (hu:okTri u) (hz:okTriZ u) (ha:0 < area u) (hx:-512 <= x /\ x <= 512) (hy:-512 <= y /\ y <= 512) :
  plane_Depth fl u x y = some (min (max (Int.fdiv (weigh u (u.1.2.2.1,u.2.1.2.2.1,u.2.2.2.2.1) (16 * x + 8) (16 * y + 8)) (area u)) (lowZ u)) (highZ u)):=by
 have h1:=hz.1.1;have h2:=hz.2.1.1;have h3:=hz.2.2.1;have k1:small30 u.1.2.2.1:=⟨by omega,by omega⟩
 have k2:small30 u.2.1.2.2.1:=⟨by omega,by omega⟩
 have k3:small30 u.2.2.2.2.1:=⟨by omega,by omega⟩
 have nx:near (16 * x + 8):=⟨by omega,by omega⟩
 have ny:near (16 * y + 8):=⟨by omega,by omega⟩
 have e:plane_At fl u (u.1.2.2.1,(u.2.1.2.2.1,u.2.2.2.2.1)) (16 * x + 8) (16 * y + 8) = _:=at_is fl hu ha k1 k2 k3 nx ny;unfold plane_Depth;rw [edge_area hu,ob_some,bnd_eq,le_f ha,bite_f,each_spec fl hx hy,e,ob_some,bnd_eq,bnd_eq,bnd_eq,bnd_eq,f_min,f_min,f_max,f_max,f_max,f_min];unfold lowZ highZ;rfl
end Go.Proofs.Ytkacojopcajboaa.PL
namespace Go.Proofs.Ytkacojopcajboaa.PL
open Go Go.RowKit Go.Proofs.Ytkacojopcajboaa.M Go.Proofs.Ytkacojopcajboaa.G Go.Proofs.Ytkacojopcajboaa.PL
def num (u:Tri) (n:Int × Int × Int) (x y:Int):Int:=if 0 < area u then Int.fdiv (weigh u n x y) (area u) else 0
theorem at_num (fl:Nat) {u:Tri} {n:Int × Int × Int} {x y:Int} (hu:okTri u) (h1:small30 n.1) (h2:small30 n.2.1) (h3:small30 n.2.2) (hx:near x) (hy:near y):plane_At fl u n x y = some (num u n x y):=by
 unfold num;by_cases ha:0 < area u
 ·rw [if_pos ha,at_is fl hu ha h1 h2 h3 hx hy]
 ·rw [if_neg ha,at_flat fl hu (by omega)]
def dep (u:Tri) (x y:Int):Int:=if 0 < area u then min (max (num u (u.1.2.2.1,u.2.1.2.2.1,u.2.2.2.2.1) (16 * x + 8) (16 * y + 8)) (lowZ u)) (highZ u) else 0
theorem dep_spec (fl:Nat) {u:Tri} {x y:Int} (hu:okTri u) (hz:okTriZ u) (hx:-512 <= x /\ x <= 512) (hy:-512 <= y /\ y <= 512):plane_Depth fl u x y = some (dep u x y):=by
 unfold dep;by_cases ha:0 < area u
 ·rw [if_pos ha,depth_spec fl hu hz ha hx hy];unfold num;rw [if_pos ha]
 ·rw [if_neg ha];unfold plane_Depth;rw [edge_area hu,ob_some,bnd_eq,le_t (by omega),bite_t]
theorem centre_run {x:Int} (hx:-512 <= x /\ x <= 512):view_Centre x = some (16 * x + 8):=by
 unfold view_Centre;rw [bnd_eq,mulI (by omega),bnd_eq,addI (by omega)]
theorem each_num (fl:Nat) {u:Tri} {x y i:Int} {n:Int × Int × Int} (hu:okTri u) (e1:plane_Attrs_1 u.1 i = some n.1) (e2:plane_Attrs_1 u.2.1 i = some n.2.1) (e3:plane_Attrs_1 u.2.2 i = some n.2.2)
  (h1:-4096 <= n.1 /\ n.1 <= 4096) (h2:-4096 <= n.2.1 /\ n.2.1 <= 4096) (h3:-4096 <= n.2.2 /\ n.2.2 <= 4096) (hx:-512 <= x /\ x <= 512) (hy:-512 <= y /\ y <= 512) :
  plane_each fl u x y i = some (num u n (16 * x + 8) (16 * y + 8)):=by
 unfold plane_each;rw [e1,ob_some,e2,ob_some,e3,ob_some,centre_run hx,ob_some,centre_run hy,ob_some,at_num fl (n:=(n.1,(n.2.1,n.2.2))) hu ⟨by dsimp only; omega,by dsimp only; omega⟩ ⟨by dsimp only; omega,by dsimp only; omega⟩ ⟨by dsimp only; omega,by dsimp only; omega⟩ ⟨by omega,by omega⟩ ⟨by omega,by omega⟩]
 rfl
theorem attr0 (p:Pt):plane_Attrs_1 p 0 = some p.2.2.2.1:=rfl
theorem attr1 (p:Pt):plane_Attrs_1 p 1 = some p.2.2.2.2.1:=rfl
theorem attr2 (p:Pt):plane_Attrs_1 p 2 = some p.2.2.2.2.2.1:=rfl
theorem attr3 (p:Pt):plane_Attrs_1 p 3 = some p.2.2.2.2.2.2:=rfl
theorem attrs_spec (fl:Nat) {u:Tri} {x y:Int} (hu:okTri u) (hz:okTriZ u) (hx:-512 <= x /\ x <= 512) (hy:-512 <= y /\ y <= 512):plane_Attrs fl u x y =
  some (num u (u.1.2.2.2.1,u.2.1.2.2.2.1,u.2.2.2.2.2.1) (16 * x + 8) (16 * y + 8),(num u (u.1.2.2.2.2.1,u.2.1.2.2.2.2.1,u.2.2.2.2.2.2.1) (16 * x + 8) (16 * y + 8),
   (num u (u.1.2.2.2.2.2.1,u.2.1.2.2.2.2.2.1,u.2.2.2.2.2.2.2.1) (16 * x + 8) (16 * y + 8),num u (u.1.2.2.2.2.2.2,u.2.1.2.2.2.2.2.2,u.2.2.2.2.2.2.2.2) (16 * x + 8) (16 * y + 8)))):=by
 obtain ⟨⟨_,a1,a2,a3,a4⟩,⟨_,b1,b2,b3,b4⟩,⟨_,c1,c2,c3,c4⟩⟩:=hz;unfold plane_Attrs
 rw [each_num fl (n:=(u.1.2.2.2.1,u.2.1.2.2.2.1,u.2.2.2.2.2.1)) hu (attr0 _) (attr0 _) (attr0 _) a1 b1 c1 hx hy,ob_some,
  each_num fl (n:=(u.1.2.2.2.2.1,u.2.1.2.2.2.2.1,u.2.2.2.2.2.2.1)) hu (attr1 _) (attr1 _) (attr1 _) a2 b2 c2 hx hy,ob_some,
  each_num fl (n:=(u.1.2.2.2.2.2.1,u.2.1.2.2.2.2.2.1,u.2.2.2.2.2.2.2.1)) hu (attr2 _) (attr2 _) (attr2 _) a3 b3 c3 hx hy,ob_some,
  each_num fl (n:=(u.1.2.2.2.2.2.2,u.2.1.2.2.2.2.2.2,u.2.2.2.2.2.2.2.2)) hu (attr3 _) (attr3 _) (attr3 _) a4 b4 c4 hx hy,ob_some]
end Go.Proofs.Ytkacojopcajboaa.PL
namespace Go.Proofs.Ytkacojopcajboaa.VM
open Go Go.RowKit Go.Proofs.Ytkacojopcajboaa.M Go.Proofs.Ytkacojopcajboaa.G Go.Proofs.Ytkacojopcajboaa.VM
abbrev Pix:=Int × Int × Int × Int
abbrev Tx:=Int × Int × List (Int × Int × Int × Int)
def pz:Pix:=(0,(0,(0,0)))
def byte (x:Int):Prop:=0 <= x /\ x <= 255
def pix (c:Pix):Prop:=byte c.1 /\ byte c.2.1 /\ byte c.2.2.1 /\ byte c.2.2.2
def pxs (t:Tx):Prop:=∀ c ∈ t.2.2,pix c
def tok (t:Tx):Prop:=(1 <= t.1 /\ t.1 <= 16) /\ (1 <= t.2.1 /\ t.2.1 <= 16) /\ (t.2.2.length:Int) = t.1 * t.2.1
instance (t:Tx):Decidable (tok t):=by unfold tok; infer_instance
def tat (t:Tx) (x y:Int):Pix:=if tok t then t.2.2.getD (y % t.2.1 * t.1 + x % t.1).toNat pz else pz
theorem pix_pz:pix pz:=by unfold pix byte pz; decide
theorem tat_pix {t:Tx} (h:pxs t) (x y:Int):pix (tat t x y):=by
 unfold tat;split
 ·rw [List.getD_eq_getElem?_getD];cases he:t.2.2[(y % t.2.1 * t.1 + x % t.1).toNat]? with
  | none=>exact pix_pz
  | some c=>exact h c (List.mem_of_getElem? he)
 ·exact pix_pz
theorem tmod_as {x w:Int} (hw:0 < w):Int.tmod x w = if 0 <= x \/ x % w = 0 then x % w else x % w - w:=by
 rw [Int.tmod_eq_emod];have e:(w.natAbs:Int) = w:=by omega
 have d:(w ∣ x) ↔ x % w = 0:=⟨Int.emod_eq_zero_of_dvd,Int.dvd_of_emod_eq_zero⟩;by_cases h0:0 <= x
 ·rw [if_pos (.inl h0),if_pos (.inl h0)]; simp
 ·by_cases h1:x % w = 0
  ·rw [if_pos (.inr (d.2 h1)),if_pos (.inr h1)]; simp
  ·rw [if_neg (by rw [d]; omega),if_neg (by omega),e]
theorem mod_in {x w:Int} (hw:0 < w):0 <= x % w /\ x % w < w:=⟨Int.emod_nonneg x (by omega),Int.emod_lt_of_pos x hw⟩
theorem wrap_two {x w:Int} (hw:1 <= w /\ w <= 16):F.rem (F.add .i64 (F.rem x w) w) w = x % w:=by
 have h:=mod_in (x:=x) (w:=w) (by omega)
 have h1:=tmod_lt (a:=x) (m:=w) (by omega)
 unfold F.rem;rw [addI (by omega),Int.tmod_eq_emod_of_nonneg (by omega),tmod_as (by omega)]
 split
 ·rw [Int.add_emod_right,Int.emod_emod]
 ·rw [Int.sub_add_cancel,Int.emod_emod]
theorem ref_wrap {x w:Int} (hw:1 <= w /\ w <= 16):glazierref11_wrap x w = some (x % w):=by
 have h:=mod_in (x:=x) (w:=w) (by omega)
 have h1:=tmod_lt (a:=x) (m:=w) (by omega)
 unfold glazierref11_wrap;rw [nz_t (by omega),bgd_t,bnd_eq,bnd_eq]
 unfold F.rem;rw [tmod_as (by omega)]
 split
 ·rw [lt_f (by omega),bite_f]
 ·rw [lt_t (by omega),bite_t,bnd_eq,addI (by omega),Int.sub_add_cancel]
theorem sides_spec {fl:Nat} (hfl:3 <= fl) (a b:Int):texture_sides fl [a,b] = some (decide ((1 <= a /\ a <= 16) /\ (1 <= b /\ b <= 16))):=by
 obtain ⟨n,rfl⟩:∃ n,fl = n + 3:=⟨fl - 3,by omega⟩
 unfold texture_sides;have l0:F.len [a,b] = 2:=rfl;have g0:F.get [a,b] 0 = some a:=rfl;have g1:F.get [a,b] 1 = some b:=rfl;rw [bnd_eq,l0];rw [texture_sides_l1,bnd_eq,lt_t (by decide),bite_t,g0,ob_some,bnd_eq]
 by_cases h1:a < 1
 ·rw [lt_t h1,bite_t,ob_some,decide_eq_false (by omega)]; rfl
 rw [lt_f (by omega),bite_f,bnd_eq]
 by_cases h2:16 < a
 ·rw [gt_t h2,bite_t,ob_some,decide_eq_false (by omega)]; rfl
 rw [gt_f (by omega),bite_f,bnd_eq,show F.add .i64 0 1 = 1 from rfl]
 rw [texture_sides_l1,bnd_eq,lt_t (by decide),bite_t,g1,ob_some,bnd_eq]
 by_cases h3:b < 1
 ·rw [lt_t h3,bite_t,ob_some,decide_eq_false (by omega)]; rfl
 rw [lt_f (by omega),bite_f,bnd_eq]
 by_cases h4:16 < b
 ·rw [gt_t h4,bite_t,ob_some,decide_eq_false (by omega)]; rfl
 rw [gt_f (by omega),bite_f,bnd_eq,show F.add .i64 1 1 = 2 from rfl]
 rw [texture_sides_l1,bnd_eq,lt_f (by decide),bite_f,ob_some,decide_eq_true (by omega)]; rfl
theorem area_in {a b:Int} (ha:1 <= a /\ a <= 16) (hb:1 <= b /\ b <= 16):1 <= a * b /\ a * b <= 256:=by
 have h1:a * b <= 16 * 16:=Int.mul_le_mul ha.2 hb.2 (by omega) (by decide)
 have h2:1 * 1 <= a * b:=Int.mul_le_mul ha.1 hb.1 (by decide) (by omega)
 omega
theorem right_spec {fl:Nat} (hfl:3 <= fl) (t:Tx):texture_Right fl t = some (decide (tok t)):=by
 unfold texture_Right;rw [sides_spec hfl,ob_some];by_cases h:(1 <= t.1 /\ t.1 <= 16) /\ (1 <= t.2.1 /\ t.2.1 <= 16)
 ·have:=area_in h.1 h.2;rw [decide_eq_true h,bite_t,bnd_eq,bnd_eq,mulI (by omega),bnd_eq,lenK,f_eq]
  congr 1
  rw [decide_eq_decide];exact ⟨fun e=>⟨h.1,h.2,e⟩,fun e=>e.2.2⟩
 ·rw [decide_eq_false h,bite_f,decide_eq_false (fun k=>h ⟨k.1,k.2.1⟩)]
theorem ref_right (t:Tx):glazierref11_Right t = some (decide (tok t)):=by
 unfold glazierref11_Right;by_cases h1:1 <= t.1
 ·rw [bnd_eq,ge_t h1,bite_t,bnd_eq];by_cases h2:t.1 <= 16
  ·rw [le_t h2,bite_t,bnd_eq];by_cases h3:1 <= t.2.1
   ·rw [ge_t h3,bite_t,bnd_eq];by_cases h4:t.2.1 <= 16
    ·have:=area_in ⟨h1,h2⟩ ⟨h3,h4⟩;rw [le_t h4,bite_t,bnd_eq,bnd_eq,mulI (by omega),bnd_eq,lenK,f_eq]
     congr 1
     rw [decide_eq_decide];exact ⟨fun e=>⟨⟨h1,h2⟩,⟨h3,h4⟩,e⟩,fun e=>e.2.2⟩
    ·rw [le_f (by omega),bite_f,decide_eq_false (fun k=>h4 k.2.1.2)]
   ·rw [ge_f (by omega),bite_f,decide_eq_false (fun k=>h3 k.2.1.1)]
  ·rw [le_f (by omega),bite_f,decide_eq_false (fun k=>h2 k.1.2)]
 ·rw [bnd_eq,ge_f (by omega),bite_f,decide_eq_false (fun k=>h1 k.1.1)]
theorem place {w h a b:Int} (hb:0 <= b /\ b < h) (ha:0 <= a /\ a < w):0 <= b * w + a /\ b * w + a < w * h:=by
 have h1:0 <= b * w:=Int.mul_nonneg hb.1 (by omega)
 have h2:(b + 1) * w <= h * w:=Int.mul_le_mul_of_nonneg_right (by omega) (by omega)
 rw [Int.add_mul,Int.mul_comm h w] at h2;omega
theorem tat_get {t:Tx} (ht:tok t) (x y:Int):F.get t.2.2 (y % t.2.1 * t.1 + x % t.1) = some (tat t x y):=by
 obtain ⟨h1,h2,h3⟩:=ht;have p:=place (mod_in (x:=y) (w:=t.2.1) (by omega)) (mod_in (x:=x) (w:=t.1) (by omega))
 unfold tat;rw [if_pos ⟨h1,h2,h3⟩];unfold F.get;rw [if_pos p.1,List.getD_eq_getElem?_getD,List.getElem?_eq_getElem (show (y % t.2.1 * t.1 + x % t.1).toNat < t.2.2.length by omega)]
 rfl
theorem tat_none {t:Tx} (ht:¬ tok t) (x y:Int):tat t x y = pz:=if_neg ht
theorem texel_spec {fl:Nat} (hfl:3 <= fl) (t:Tx) (x y:Int):texture_Texel fl t x y = some (tat t x y):=by
 unfold texture_Texel;rw [right_spec hfl,ob_some,bnd_eq];by_cases ht:tok t
 ·have g:=tat_get ht x y;obtain ⟨h1,h2,h3⟩:=ht;have m1:=mod_in (x:=y) (w:=t.2.1) (by omega)
  have m2:=mod_in (x:=x) (w:=t.1) (by omega)
  have p:=place m1 m2;have p0:0 <= y % t.2.1 * t.1:=Int.mul_nonneg m1.1 (by omega)
  have ar:=area_in h1 h2;rw [decide_eq_true (show tok t from ⟨h1,h2,h3⟩),not_t,bite_f,nz_t (by omega),bgd_t,bnd_eq,bnd_eq,bgd_t,bnd_eq,wrap_two h1,nz_t (by omega),bgd_t,bnd_eq,bnd_eq,bgd_t,bnd_eq,wrap_two h2,bnd_eq,mulI (by omega),bnd_eq,addI (by omega),g,ob_some]
 ·rw [decide_eq_false ht,not_f,bite_t,tat_none ht]; rfl
theorem ref_texel (t:Tx) (x y:Int):glazierref11_Texel t x y = some (tat t x y):=by
 unfold glazierref11_Texel;rw [ref_right,ob_some,bnd_eq];by_cases ht:tok t
 ·have g:=tat_get ht x y;obtain ⟨h1,h2,h3⟩:=ht;have m1:=mod_in (x:=y) (w:=t.2.1) (by omega)
  have m2:=mod_in (x:=x) (w:=t.1) (by omega)
  have p:=place m1 m2;have p0:0 <= y % t.2.1 * t.1:=Int.mul_nonneg m1.1 (by omega)
  have ar:=area_in h1 h2;rw [decide_eq_true (show tok t from ⟨h1,h2,h3⟩),not_t,bite_f,ref_wrap h2,ob_some,bnd_eq,mulI (by omega),ref_wrap h1,ob_some,bnd_eq,addI (by omega),g,ob_some]
 ·rw [decide_eq_false ht,not_f,bite_t,tat_none ht]; rfl
/-! ### Floors -/
theorem cut_spec (fl:Nat) {x:Int} (h:-4611686018427387904 <= x /\ x <= 4611686018427387904):texture_cut fl x = some (x / 16,x % 16):=by
 unfold texture_cut fixed_Floor;rw [mulDiv_spec fl (by omega) (by decide) (by omega) (by decide) (by decide),ob_some,ob_some,Int.mul_one,Int.fdiv_eq_ediv_of_nonneg _ (by decide),bnd_eq,mulI (by simp only; omega),bnd_eq,subI (by simp only; omega)]
 simp only;rw [show x - 16 * (x / 16) = x % 16 by omega]
theorem down_spec {fl:Nat} (hfl:130 <= fl) {x:Int} (h:-4611686018427387904 <= x /\ x <= 4611686018427387904):glazierref01_Down fl x 16 = some (x / 16):=by
 rw [ref_down hfl (by omega) (by decide) (by decide),Int.fdiv_eq_ediv_of_nonneg _ (by decide)]
/-! ### Mixing -/
def mixI (a b k:Int):Int:=(a * (256 - k) + b * k + 128) / 256
def mixC (a b:Pix) (k:Int):Pix:=(mixI a.1 b.1 k,(mixI a.2.1 b.2.1 k,(mixI a.2.2.1 b.2.2.1 k,mixI a.2.2.2 b.2.2.2 k)))
theorem mixI_in {a b k lo hi:Int} (ha:lo <= a /\ a <= hi) (hb:lo <= b /\ b <= hi) (hk:0 <= k /\ k <= 256):lo <= mixI a b k /\ mixI a b k <= hi:=by
 have h1:lo * (256 - k) <= a * (256 - k):=Int.mul_le_mul_of_nonneg_right ha.1 (by omega)
 have h2:a * (256 - k) <= hi * (256 - k):=Int.mul_le_mul_of_nonneg_right ha.2 (by omega)
 have h3:lo * k <= b * k:=Int.mul_le_mul_of_nonneg_right hb.1 hk.1;have h4:b * k <= hi * k:=Int.mul_le_mul_of_nonneg_right hb.2 hk.1;have e1:lo * (256 - k) = lo * 256 - lo * k:=Int.mul_sub ..;have e2:hi * (256 - k) = hi * 256 - hi * k:=Int.mul_sub ..;unfold mixI;omega
theorem mixI_num {a b k:Int} (ha:byte a) (hb:byte b) (hk:0 <= k /\ k <= 256):(0 <= a * (256 - k) /\ a * (256 - k) <= 65280) /\ (0 <= b * k /\ b * k <= 65280):=by
 have h1:0 <= a * (256 - k):=Int.mul_nonneg ha.1 (by omega)
 have h2:a * (256 - k) <= 255 * 256:=Int.mul_le_mul ha.2 (by omega) (by omega) (by decide)
 have h3:0 <= b * k:=Int.mul_nonneg hb.1 hk.1;have h4:b * k <= 255 * 256:=Int.mul_le_mul hb.2 (by omega) (by omega) (by decide)
 omega
theorem wrap8 {n:Int} (h:byte n):IntKind.wrap .u8 n = n:=by
 obtain ⟨h1,h2⟩:=h;simp only [IntKind.wrap,IntKind.bits,IntKind.signed];simp;omega
theorem conv8 {n:Int} (h:byte n):F.conv .u8 n = n:=wrap8 h
theorem quoI {a b:Int} (ha:0 <= a /\ a <= 9223372036854775807) (hb:0 < b):F.quo .i64 a b = a / b:=by
 have h1:0 <= a / b:=Int.ediv_nonneg ha.1 (by omega)
 have h2:a / b <= a:=Int.ediv_le_self b ha.1;unfold F.quo;rw [Int.tdiv_eq_ediv_of_nonneg ha.1,wrapI (by omega) (by omega)]
theorem sat_spec {x:Int} (h:byte x):fixed_Sat x = some x:=by
 unfold fixed_Sat;have h1:=h.1; have h2:=h.2;rw [bnd_eq,f_max,bnd_eq,f_min,show min (max x 0) 255 = x by omega,bnd_eq,conv8 h]
theorem each_spec {a b k:Int} (ha:byte a) (hb:byte b) (hk:0 <= k /\ k <= 256):colour_each_1 a b k = some (mixI a b k):=by
 obtain ⟨h1,h2⟩:=mixI_num ha hb hk;have hm:byte (mixI a b k):=mixI_in ha hb hk;have a1:=ha.1; have a2:=ha.2; have b1:=hb.1; have b2:=hb.2;unfold colour_each_1 colour_Mix_1;rw [bnd_eq,convI (by omega),bnd_eq,convI (by omega),bnd_eq,subI (by omega),bnd_eq,mulI (a:=a) (by omega),bnd_eq,mulI (a:=b) (by omega),bnd_eq,addI (a:=a * (256 - k)) (by omega),bnd_eq,addI (a:=a * (256 - k) + b * k) (by omega),bnd_eq,quoI (by omega) (by decide),ob_some]
 show obind (fixed_Sat (mixI a b k)) _ = _;rw [sat_spec hm,ob_some]
theorem mix_spec {a b:Pix} {k:Int} (ha:pix a) (hb:pix b) (hk:0 <= k /\ k <= 256):colour_Mix a b k = some (mixC a b k):=by
 obtain ⟨a1,a2,a3,a4⟩:=ha;obtain ⟨b1,b2,b3,b4⟩:=hb;unfold colour_Mix colour_each;rw [bnd_eq,f_max,bnd_eq,f_min,show min (max k 0) 256 = k by omega,each_spec a1 b1 hk,ob_some,each_spec a2 b2 hk,ob_some,each_spec a3 b3 hk,ob_some,each_spec a4 b4 hk,ob_some,ob_some]
 rfl
theorem rmix_spec {a b k:Int} (ha:byte a) (hb:byte b) (hk:0 <= k /\ k <= 256):glazierref02_mix a b k = some (mixI a b k):=by
 obtain ⟨h1,h2⟩:=mixI_num ha hb hk;have hm:byte (mixI a b k):=mixI_in ha hb hk;have a1:=ha.1; have a2:=ha.2; have b1:=hb.1; have b2:=hb.2;unfold glazierref02_mix;rw [bnd_eq,convI (by omega),bnd_eq,subI (by omega),bnd_eq,mulI (a:=a) (by omega),bnd_eq,convI (by omega),bnd_eq,mulI (a:=b) (by omega),bnd_eq,addI (a:=a * (256 - k)) (by omega),bnd_eq,addI (a:=a * (256 - k) + b * k) (by omega),bnd_eq,quoI (by omega) (by decide),bnd_eq]
 show some (F.conv .u8 (mixI a b k)) = _
 rw [conv8 hm]
theorem ref_mix {a b:Pix} {k:Int} (ha:pix a) (hb:pix b) (hk:0 <= k /\ k <= 256):glazierref02_Mix a b k = some (mixC a b k):=by
 obtain ⟨a1,a2,a3,a4⟩:=ha;obtain ⟨b1,b2,b3,b4⟩:=hb;unfold glazierref02_Mix;rw [bnd_eq,lt_f hk.1,bite_f,bnd_eq,gt_f hk.2,bite_f,rmix_spec a1 b1 hk,ob_some,rmix_spec a2 b2 hk,ob_some,rmix_spec a3 b3 hk,ob_some,rmix_spec a4 b4 hk,ob_some];rfl
theorem mixC_pix {a b:Pix} {k:Int} (ha:pix a) (hb:pix b) (hk:0 <= k /\ k <= 256):pix (mixC a b k):=by
 obtain ⟨a1,a2,a3,a4⟩:=ha;obtain ⟨b1,b2,b3,b4⟩:=hb;exact ⟨mixI_in a1 b1 hk,mixI_in a2 b2 hk,mixI_in a3 b3 hk,mixI_in a4 b4 hk⟩
/-! ### What is smooth -/
def trow (t:Tx) (u V:Int):Pix:=mixC (tat t ((u - 8) / 16) V) (tat t ((u - 8) / 16 + 1) V) (16 * ((u - 8) % 16))
def tsm (t:Tx) (u v:Int):Pix:=mixC (trow t u ((v - 8) / 16)) (trow t u ((v - 8) / 16 + 1)) (16 * ((v - 8) % 16))
def tnear (t:Tx) (u v:Int):Pix:=tat t (u / 16) (v / 16)
def mid (x:Int):Prop:=-2305843009213693952 <= x /\ x <= 2305843009213693952
theorem frac_in (x:Int):0 <= 16 * (x % 16) /\ 16 * (x % 16) <= 256:=by omega
theorem smooth_spec {fl:Nat} (hfl:3 <= fl) {t:Tx} (ht:pxs t) {u v:Int} (hu:mid u) (hv:mid v):texture_Smooth fl t u v = some (tsm t u v):=by
 unfold mid at hu hv;have row:∀ V,texture_Smooth_1 fl V t ((u - 8) / 16) ((u - 8) % 16) = some (trow t u V):=fun V=>by
  unfold texture_Smooth_1;rw [texel_spec hfl,ob_some,bnd_eq,addI (by omega),texel_spec hfl,ob_some,bnd_eq,mulI (by omega),mix_spec (tat_pix ht _ _) (tat_pix ht _ _) (frac_in _),ob_some]
  rfl
 have p:∀ V,pix (trow t u V):=fun V=>mixC_pix (tat_pix ht _ _) (tat_pix ht _ _) (frac_in _)
 unfold texture_Smooth
 rw [bnd_eq,subI (by omega),cut_spec fl (by omega),ob_some,bnd_eq,subI (by omega),cut_spec fl (by omega),ob_some,row,ob_some,bnd_eq,addI (by simp only; omega),row,ob_some,bnd_eq,mulI (by simp only; omega),
  mix_spec (p _) (p _) (frac_in _),ob_some]
 rfl
theorem ref_smooth {fl:Nat} (hfl:130 <= fl) {t:Tx} (ht:pxs t) {u v:Int} (hu:mid u) (hv:mid v):glazierref11_Smooth fl t u v = some (tsm t u v):=by
 unfold mid at hu hv;have p:∀ V,pix (mixC (tat t ((u - 8) / 16) V) (tat t ((u - 8) / 16 + 1) V) (16 * ((u - 8) % 16))):=fun V=>mixC_pix (tat_pix ht _ _) (tat_pix ht _ _) (frac_in _)
 unfold glazierref11_Smooth
 rw [bnd_eq,subI (a:=u) (by omega),down_spec hfl (by omega),ob_some,bnd_eq,subI (a:=v) (by omega),down_spec hfl (by omega),ob_some,bnd_eq,ref_wrap (by decide),ob_some,bnd_eq,mulI (by omega),bnd_eq,ref_wrap (by decide),ob_some,bnd_eq,mulI (by omega),
  ref_texel,ob_some,bnd_eq,addI (by omega),ref_texel,ob_some,ref_mix (tat_pix ht _ _) (tat_pix ht _ _) (frac_in _),ob_some,bnd_eq,addI (by omega),ref_texel,ob_some,bnd_eq,bnd_eq,ref_texel,ob_some,ref_mix (tat_pix ht _ _) (tat_pix ht _ _) (frac_in _),ob_some,ref_mix (p _) (p _) (frac_in _),ob_some]
 rfl
theorem near_spec {fl:Nat} (hfl:3 <= fl) {t:Tx} {u v:Int} (hu:mid u) (hv:mid v):texture_Nearest fl t u v = some (tnear t u v):=by
 unfold mid at hu hv;unfold texture_Nearest;rw [cut_spec fl (by omega),ob_some,cut_spec fl (by omega),ob_some,texel_spec hfl,ob_some]
 rfl
theorem ref_near {fl:Nat} (hfl:130 <= fl) {t:Tx} {u v:Int} (hu:mid u) (hv:mid v):glazierref11_Nearest fl t u v = some (tnear t u v):=by
 unfold mid at hu hv;unfold glazierref11_Nearest;rw [down_spec hfl (by omega),ob_some,down_spec hfl (by omega),ob_some,ref_texel,ob_some]
 rfl
/-! ### Pictures made right -/
theorem byte_wrap (n:Int):byte (F.conv .u8 n):=by
 unfold F.conv byte
 simp only [IntKind.wrap,IntKind.bits,IntKind.signed];simp;omega
theorem fit_loop (fl:Nat) {X Y w h:Int} {px:List Pix} (hw:1 <= w /\ w <= 16) (hh:1 <= h /\ h <= 16) (hpx:∀ c ∈ px,pix c):∀ (k n:Nat) (acc:List Pix),(acc.length:Int) + k = w * h -> k + 1 <= n -> (∀ c ∈ acc,pix c) ->
  ∃ l,glazierref11_Fit_l1 fl n (acc.length:Int) X Y px w h acc = some (w,(h,(l,()))) /\ (l.length:Int) = w * h /\ ∀ c ∈ l,pix c
 | 0,n,acc,hl,hn,ha=>by
  have ar:=area_in hw hh;obtain ⟨n,rfl⟩:∃ m,n = m + 1:=⟨n - 1,by omega⟩
  rw [glazierref11_Fit_l1,bnd_eq,mulI (by omega),bnd_eq,lt_f (by omega),bite_f]
  exact ⟨acc,rfl,by omega,ha⟩
 | k + 1,n,acc,hl,hn,ha=>by
  have ar:=area_in hw hh;obtain ⟨n,rfl⟩:∃ m,n = m + 1:=⟨n - 1,by omega⟩
  have step:∀ c,pix c -> ∃ l,glazierref11_Fit_l1 fl n ((acc.length:Int) + 1) X Y px w h (acc ++ [c]) = some (w,(h,(l,()))) /\ (l.length:Int) = w * h /\ ∀ c ∈ l,pix c:=fun c hc=>by
   have:=fit_loop fl (X:=X) (Y:=Y) hw hh hpx k n (acc ++ [c]) (by simp; omega) (by omega) (fun d hd=>by
    rcases List.mem_append.1 hd with hd | hd
    ·exact ha d hd
    ·have:d = c:=by simpa using hd
     rw [this]; exact hc)
   rw [show ((acc ++ [c]).length:Int) = (acc.length:Int) + 1 by simp] at this
   exact this
  rw [glazierref11_Fit_l1,bnd_eq,mulI (by omega),bnd_eq,lt_t (by omega),bite_t,bnd_eq,bnd_eq,bnd_eq,bnd_eq,bnd_eq,lenK]
  by_cases hin:(acc.length:Int) < (px.length:Int)
  ·rw [lt_t hin,bite_t,lgetK (show acc.length < px.length by omega),ob_some,appOk_t (by simp; omega) (by decide),bgd_t,bnd_eq,appK,bnd_eq,addI (by omega)]
   exact step _ (hpx _ (List.getElem_mem _))
  ·rw [lt_f (by omega),bite_f,appOk_t (by simp; omega) (by decide),bgd_t,bnd_eq,appK,bnd_eq,addI (by omega)]
   exact step _ ⟨byte_wrap _,byte_wrap _,show byte 7 from (by unfold byte; decide),show byte 255 from (by unfold byte; decide)⟩
theorem fit_spec {fl:Nat} (hfl:300 <= fl) (t:Tx) (ht:pxs t):∃ f,glazierref11_Fit fl t = some f /\ tok f /\ pxs f:=by
 have w1:=mod_in (x:=t.1) (w:=16) (by decide)
 have w2:=mod_in (x:=t.2.1) (w:=16) (by decide)
 have ar:=area_in (a:=1 + t.1 % 16) (b:=1 + t.2.1 % 16) (by omega) (by omega)
 obtain ⟨l,e,h1,h2⟩:=fit_loop fl (X:=t.1) (Y:=t.2.1) (w:=1 + t.1 % 16) (h:=1 + t.2.1 % 16) (px:=t.2.2) (by omega) (by omega) ht ((1 + t.1 % 16) * (1 + t.2.1 % 16)).toNat fl [] (by simp; omega) (by omega) (by simp)
 refine ⟨(1 + t.1 % 16,(1 + t.2.1 % 16,l)),?_,⟨by simp only; omega,by simp only; omega,h1⟩,h2⟩
 unfold glazierref11_Fit;rw [show (([]:List Pix).length:Int) = 0 from rfl] at e;rw [ref_wrap (by decide),ob_some,bnd_eq,addI (by omega),ref_wrap (by decide),ob_some,bnd_eq,addI (by omega),e,ob_some]
theorem tex_in {t:Tx} (h:okT (Ty.pair (.int .i64) (.pair (.int .i64) (.list (.pair (.int .u8) (.pair (.int .u8) (.pair (.int .u8) (.int .u8))))))) t):pxs t:=fun c hc=>by
 have:=h.2.2.2 c hc;exact ⟨inR_u8.1 this.1,inR_u8.1 this.2.1,inR_u8.1 this.2.2.1,inR_u8.1 this.2.2.2⟩
end Go.Proofs.Ytkacojopcajboaa.VM
namespace Go.Proofs.Ytkacojopcajboaa.VM
open Go Go.RowKit Go.Proofs.Ytkacojopcajboaa.M Go.Proofs.Ytkacojopcajboaa.G Go.Proofs.Ytkacojopcajboaa.VM
abbrev Ins:=Int × Int × Int × Int × Int
def insB (x:Ins):Prop:=byte x.1 /\ byte x.2.1 /\ byte x.2.2.1 /\ byte x.2.2.2.1 /\ (-9223372036854775808 <= x.2.2.2.2 /\ x.2.2.2.2 <= 9223372036854775807)
def three (o:Int):Prop:=(2 <= o /\ o <= 8) \/ o = 11 \/ o = 13 \/ o = 14
instance (o:Int):Decidable (three o):=by unfold three; infer_instance
def iok (x:Ins) (i n:Int):Prop:=
 (x.2.1 <= 7 /\ x.2.2.1 <= 7 /\ x.2.2.2.1 <= 7) /\
 ((three x.1 /\ x.2.2.2.2 = 0 /\ (x.1 < 13 \/ x.2.1 <= 4)) \/
  (x.1 = 0 /\ x.2.2.1 = 0 /\ x.2.2.2.1 = 0 /\ -2147483648 <= x.2.2.2.2 /\ x.2.2.2.2 <= 2147483647) \/
  (x.1 = 1 /\ x.2.2.2.1 = 0 /\ x.2.2.2.2 = 0) \/
  ((x.1 = 9 \/ x.1 = 10) /\ x.2.2.2.1 = 0 /\ 0 <= x.2.2.2.2 /\ x.2.2.2.2 <= 31) \/
  (x.1 = 12 /\ x.2.1 = 0 /\ x.2.2.2.1 = 0 /\ 0 <= x.2.2.2.2 /\ x.2.2.2.2 <= n - i - 1))
instance (x:Ins) (i n:Int):Decidable (iok x i n):=by unfold iok; infer_instance
theorem dec_of {p q:Prop} [Decidable p] [Decidable q] (h:p ↔ q):some (decide p) = some (decide q):=congrArg some (decide_eq_decide.2 h)
theorem dec_t {p:Prop} [Decidable p] (h:p):some true = some (decide p):=congrArg some (decide_eq_true h).symm
theorem dec_f {p:Prop} [Decidable p] (h:¬ p):some false = some (decide p):=congrArg some (decide_eq_false h).symm
theorem bite_and (p q:Prop) [Decidable p] [Decidable q]:bite (decide p) (some (decide q)) (some false) = some (decide (p /\ q)):=by
 by_cases h:p
 ·rw [decide_eq_true h,bite_t]; congr 1; rw [decide_eq_decide]; exact ⟨fun k=>⟨h,k⟩,fun k=>k.2⟩
 ·rw [decide_eq_false h,bite_f,decide_eq_false (fun k=>h k.1)]
theorem fits_spec (x lo hi:Int) (b:Bool):code_fits x lo hi b = some (decide ((lo <= x /\ x <= hi) /\ (b = true \/ x = 0))):=by
 unfold code_fits;rw [bnd_eq,bnd_eq];by_cases h1:lo <= x
 ·rw [ge_t h1,bite_t];by_cases h2:x <= hi
  ·rw [le_t h2,bite_t];cases b
   ·rw [bite_f,bnd_eq,f_eq]; congr 1; rw [decide_eq_decide]; exact ⟨fun k=>⟨⟨h1,h2⟩,.inr k⟩,fun k=>k.2.resolve_left (by decide)⟩
   ·rw [bite_t,decide_eq_true ⟨⟨h1,h2⟩,.inl rfl⟩]
  ·rw [le_f (by omega),bite_f,decide_eq_false (fun k=>h2 k.1.2)]
 ·rw [ge_f (by omega),bite_f,decide_eq_false (fun k=>h1 k.1.1)]
noncomputable def ask4 (i n D hd:Int) (bd:Bool) (A:Int) (ba:Bool) (B:Int) (bb:Bool) (N lo hi:Int) (bn:Bool):Option Bool:=
 bite (F.ge i 0) (bite (F.lt i n) (
  obind (code_fits (F.conv .i64 D) 0 hd bd) fun q=>bite q (
  obind (code_fits (F.conv .i64 A) 0 7 ba) fun q=>bite q (
  obind (code_fits (F.conv .i64 B) 0 7 bb) fun q=>bite q (
  obind (code_fits N lo hi bn) fun q=>some q) (some false)) (some false)) (some false)) (some false)) (some false)
theorem ask4_spec {i n D hd A B N lo hi:Int} {bd ba bb bn:Bool} (hi0:0 <= i) (hin:i < n) (hD:byte D) (hA:byte A) (hB:byte B) :
  ask4 i n D hd bd A ba B bb N lo hi bn = some (decide ((D <= hd /\ (bd = true \/ D = 0)) /\ (A <= 7 /\ (ba = true \/ A = 0)) /\ (B <= 7 /\ (bb = true \/ B = 0)) /\ (lo <= N /\ N <= hi) /\ (bn = true \/ N = 0))):=by
 unfold byte at hD hA hB;unfold ask4;rw [ge_t hi0,bite_t,lt_t hin,bite_t,convI (by omega),convI (by omega),convI (by omega)]
 simp only [fits_spec,ob_some];rw [bite_and,bite_and,bite_and]
 congr 1
 rw [decide_eq_decide];constructor
 ·intro h; exact ⟨⟨h.1.1.2,h.1.2⟩,⟨h.2.1.1.2,h.2.1.2⟩,⟨h.2.2.1.1.2,h.2.2.1.2⟩,h.2.2.2⟩
 ·intro h; exact ⟨⟨⟨hD.1,h.1.1⟩,h.1.2⟩,⟨⟨hA.1,h.2.1.1⟩,h.2.1.2⟩,⟨⟨hB.1,h.2.2.1.1⟩,h.2.2.1.2⟩,h.2.2.2⟩
theorem op_cases {o:Int} (h:byte o):o = 0 \/ o = 1 \/ o = 2 \/ o = 3 \/ o = 4 \/ o = 5 \/ o = 6 \/ o = 7 \/ o = 8 \/ o = 9 \/ o = 10 \/ o = 11 \/ o = 12 \/ o = 13 \/ o = 14 \/ 15 <= o:=by
 unfold byte at h; omega
section
variable (D A B N i n:Int)
theorem one_0:code_One (0,(D,(A,(B,N)))) i n = ask4 i n D 7 true A false B false N (-2147483648) 2147483647 true:=rfl
theorem one_1:code_One (1,(D,(A,(B,N)))) i n = ask4 i n D 7 true A true B false N 0 0 false:=rfl
theorem one_2:code_One (2,(D,(A,(B,N)))) i n = ask4 i n D 7 true A true B true N 0 0 false:=rfl
theorem one_3:code_One (3,(D,(A,(B,N)))) i n = ask4 i n D 7 true A true B true N 0 0 false:=rfl
theorem one_4:code_One (4,(D,(A,(B,N)))) i n = ask4 i n D 7 true A true B true N 0 0 false:=rfl
theorem one_5:code_One (5,(D,(A,(B,N)))) i n = ask4 i n D 7 true A true B true N 0 0 false:=rfl
theorem one_6:code_One (6,(D,(A,(B,N)))) i n = ask4 i n D 7 true A true B true N 0 0 false:=rfl
theorem one_7:code_One (7,(D,(A,(B,N)))) i n = ask4 i n D 7 true A true B true N 0 0 false:=rfl
theorem one_8:code_One (8,(D,(A,(B,N)))) i n = ask4 i n D 7 true A true B true N 0 0 false:=rfl
theorem one_9:code_One (9,(D,(A,(B,N)))) i n = ask4 i n D 7 true A true B false N 0 31 true:=rfl
theorem one_10:code_One (10,(D,(A,(B,N)))) i n = ask4 i n D 7 true A true B false N 0 31 true:=rfl
theorem one_11:code_One (11,(D,(A,(B,N)))) i n = ask4 i n D 7 true A true B true N 0 0 false:=rfl
theorem one_12:code_One (12,(D,(A,(B,N)))) i n = ask4 i n D 7 false A true B false N 0 (F.sub .i64 (F.sub .i64 n i) 1) true:=rfl
theorem one_13:code_One (13,(D,(A,(B,N)))) i n = ask4 i n D 4 true A true B true N 0 0 false:=rfl
theorem one_14:code_One (14,(D,(A,(B,N)))) i n = ask4 i n D 4 true A true B true N 0 0 false:=rfl
end
theorem one_more {x:Ins} {i n:Int} (h:15 <= x.1):code_One x i n = some false:=by
 have e:∀ k:Int,k < 15 -> F.eq x.1 k = false:=fun k hk=>eq_f (by omega)
 have u:code_uses x.1 = some 0:=by
  unfold code_uses;simp only [bnd_eq,e 0 (by decide),e 1 (by decide),e 2 (by decide),e 3 (by decide),e 4 (by decide),e 5 (by decide),e 6 (by decide),e 7 (by decide),e 8 (by decide),e 9 (by decide),e 10 (by decide),e 11 (by decide),e 12 (by decide),e 13 (by decide),e 14 (by decide),bite_f]
 have a:code_asks x = some false:=by
  unfold code_asks;simp only [bnd_eq,e 13 (by decide),e 14 (by decide),bite_f]
 unfold code_One;rw [u,ob_some,a];simp only [bnd_eq,ob_some,e 0 (by decide),e 9 (by decide),e 10 (by decide),e 12 (by decide),bite_f,show F.gt (0:Int) 0 = false from rfl]
theorem one_spec {x:Ins} {i n:Int} (hx:insB x) (hi0:0 <= i) (hin:i < n) (hn:n <= 100):code_One x i n = some (decide (iok x i n)):=by
 obtain ⟨o,D,A,B,N⟩:=x;obtain ⟨ho,hD,hA,hB,hN⟩:=hx;simp only at ho hD hA hB hN;have hD':=hD; have hA':=hA; have hB':=hB;unfold byte at hD' hA' hB';rcases op_cases ho with rfl | rfl | rfl | rfl | rfl | rfl | rfl | rfl | rfl | rfl | rfl | rfl | rfl | rfl | rfl | hk
 case' inr.inr.inr.inr.inr.inr.inr.inr.inr.inr.inr.inr.inr.inr.inr=>
  rw [one_more hk];refine dec_f ?_;unfold iok three;simp only;omega
 case' inr.inr.inr.inr.inr.inr.inr.inr.inr.inr.inr.inr.inl=>rw [one_12,subI (a:=n) (b:=i) (by omega),subI (by omega)]
 all_goals
  first | rw [one_0] | rw [one_1] | rw [one_2] | rw [one_3] | rw [one_4] | rw [one_5] | rw [one_6] | rw [one_7] | rw [one_8] | rw [one_9] | rw [one_10] | rw [one_11] | rw [one_13] | rw [one_14] | skip
  rw [ask4_spec hi0 hin hD hA hB];refine dec_of ?_;unfold iok three;simp only [true_or,or_true,and_true,true_and,reduceCtorEq,false_or];omega
theorem three_spec (o:Int):glazierref12_three o = some (decide (three o)):=by
 unfold glazierref12_three;have e:∀ b:Bool,(bnd (F.eq o 11) fun v3=>bite v3 (some true) (bnd (F.eq o 13) fun v4=>bite v4 (some true) (bnd (F.eq o 14) fun v5=>some v5))) = some (decide (o = 11 \/ o = 13 \/ o = 14)):=fun b=>by
  rw [bnd_eq,bnd_eq,bnd_eq];by_cases h1:o = 11
  ·rw [eq_t h1,bite_t,decide_eq_true (.inl h1)]
  rw [eq_f h1,bite_f];by_cases h2:o = 13
  ·rw [eq_t h2,bite_t,decide_eq_true (.inr (.inl h2))]
  rw [eq_f h2,bite_f,f_eq]
  congr 1
  rw [decide_eq_decide];omega
 rw [e false,bnd_eq,bnd_eq];by_cases h1:2 <= o
 ·rw [ge_t h1,bite_t];by_cases h2:o <= 8
  ·rw [le_t h2,bite_t]; exact dec_t (.inl ⟨h1,h2⟩)
  ·rw [le_f (by omega),bite_f]; refine dec_of ?_; unfold three; omega
 ·rw [ge_f (by omega),bite_f]; refine dec_of ?_; unfold three; omega
theorem ref_one {x:Ins} {i n:Int} (hx:insB x) (hi0:0 <= i) (hin:i < n) (hn:n <= 100):glazierref12_One x i n = some (decide (iok x i n)):=by
 obtain ⟨o,D,A,B,N⟩:=x;obtain ⟨ho,hD,hA,hB,hN⟩:=hx;simp only at ho hD hA hB hN;unfold byte at ho hD hA hB;unfold glazierref12_One;simp only;rw [three_spec];by_cases h1:7 < D
 ·rw [bnd_eq,gt_t h1,bite_t]; refine dec_f ?_; unfold iok; simp only; omega
 rw [bnd_eq,gt_f (by omega),bite_f]
 by_cases h2:7 < A
 ·rw [bnd_eq,gt_t h2,bite_t]; refine dec_f ?_; unfold iok; simp only; omega
 rw [bnd_eq,gt_f (by omega),bite_f]
 by_cases h3:7 < B
 ·rw [bnd_eq,gt_t h3,bite_t]; refine dec_f ?_; unfold iok; simp only; omega
 rw [bnd_eq,gt_f (by omega),bite_f,bnd_eq,lt_f hi0,bite_f,bnd_eq,ge_f hin,bite_f,ob_some]
 by_cases h4:three o
 ·rw [decide_eq_true h4,bite_t,bnd_eq];unfold three at h4;by_cases h5:N = 0
  ·rw [eq_t h5,bite_t,bnd_eq];by_cases h6:o < 13
   ·rw [lt_t h6,bite_t]; refine dec_t ?_; unfold iok three; simp only; omega
   ·rw [lt_f (by omega),bite_f,bnd_eq,F.le]; refine dec_of ?_; unfold iok three; simp only; omega
  ·rw [eq_f h5,bite_f]; refine dec_f ?_; unfold iok three; simp only; omega
 rw [decide_eq_false h4,bite_f,bnd_eq];unfold three at h4;by_cases h5:B = 0
 case neg=>rw [ne_t h5,bite_t]; refine dec_f ?_; unfold iok three; simp only; omega
 rw [ne_f h5,bite_f];simp only [bnd_eq,F.le,F.ge,f_eq,bite_and,ge_iff_le];by_cases h6:o = 0
 ·rw [decide_eq_true h6,bite_t]; refine dec_of ?_; unfold iok three; simp only; omega
 rw [decide_eq_false h6,bite_f];by_cases h7:o = 1
 ·rw [decide_eq_true h7,bite_t]; refine dec_of ?_; unfold iok three; simp only; omega
 rw [decide_eq_false h7,bite_f];by_cases h8:o = 9
 ·rw [decide_eq_true h8,bite_t,bite_t]; refine dec_of ?_; unfold iok three; simp only; omega
 rw [decide_eq_false h8,bite_f];by_cases h9:o = 10
 ·rw [decide_eq_true h9,bite_t]; refine dec_of ?_; unfold iok three; simp only; omega
 rw [decide_eq_false h9,bite_f];rw [subI (a:=n) (b:=i) (by omega),subI (by omega)]; refine dec_of ?_; unfold iok three; simp only; omega
/-! ### Whole programs -/
def progs (l:List Ins):Prop:=∀ x ∈ l,insB x
def prog (l:List Ins):Prop:=1 <= l.length /\ l.length <= 32 /\ ∀ (j:Nat) (h:j < l.length),iok l[j] j l.length
noncomputable instance (l:List Ins):Decidable (prog l):=Classical.propDecidable _
theorem check_loop (fl:Nat) {l:List Ins} (hl:progs l) (hs:l.length <= 32):∀ (k n i:Nat),i + k = l.length -> k + 1 <= n -> (∀ (j:Nat) (h:j < l.length),j < i -> iok l[j] j l.length) ->
  ∃ s,code_Check_l1 fl n l l l.length i = some s /\ glazierref12_Check_l1 fl n l i = some s /\ ((∃ u,s = .inr u) ↔ ∀ (j:Nat) (h:j < l.length),iok l[j] j l.length)
 | 0,n,i,hk,hn,hj=>by
  obtain ⟨n,rfl⟩:∃ m,n = m + 1:=⟨n - 1,by omega⟩
  simp only [code_Check_l1,glazierref12_Check_l1,lenK,bnd_eq];rw [lt_f (by omega),bite_f,bite_f]
  exact ⟨_,rfl,rfl,fun _ j h=>hj j h (by omega),fun _=>⟨_,rfl⟩⟩
 | k + 1,n,i,hk,hn,hj=>by
  obtain ⟨n,rfl⟩:∃ m,n = m + 1:=⟨n - 1,by omega⟩
  have hx:=hl _ (List.getElem_mem (show i < l.length by omega))
  simp only [code_Check_l1,glazierref12_Check_l1,lenK,bnd_eq]
  rw [lt_t (by omega),bite_t,bite_t,lgetK (show i < l.length by omega),ob_some,ob_some,
   one_spec hx (by omega) (by omega) (by omega),ref_one hx (by omega) (by omega) (by omega),ob_some,ob_some]
  by_cases h:iok l[i] i l.length
  ·rw [decide_eq_true h,not_t,bite_f,bite_f,addI (by omega)]
   exact check_loop fl hl hs k n (i + 1) (by omega) (by omega) (fun j h' hji=>by
    rcases Nat.lt_or_eq_of_le (show j <= i by omega) with q | q
    ·exact hj j h' q
    ·subst q; exact h)
  ·rw [decide_eq_false h,not_f,bite_t,bite_t];exact ⟨_,rfl,rfl,fun ⟨u,hu⟩=>(nomatch hu),fun hall=>absurd (hall i (by omega)) h⟩
theorem check_spec {fl:Nat} (hfl:40 <= fl) {l:List Ins} (hl:progs l) :
  code_Check fl l = some (if prog l then 0 else 23) /\ glazierref12_Check fl l = some (if prog l then 0 else 23):=by
 unfold code_Check glazierref12_Check;simp only [bnd_eq,lenK];by_cases h1:l.length = 0
 ·rw [eq_t (by omega),bite_t,lt_t (by omega),bite_t,if_neg (fun k=>by have:=k.1; omega)]
  exact ⟨rfl,rfl⟩
 rw [eq_f (by omega),bite_f,lt_f (by omega),bite_f]
 by_cases h2:32 < l.length
 ·rw [gt_t (by omega),bite_t,bite_t,if_neg (fun k=>by have:=k.2.1; omega)]
  exact ⟨rfl,rfl⟩
 rw [gt_f (by omega),bite_f,bite_f]
 obtain ⟨s,e1,e2,hs⟩:=check_loop fl hl (by omega) l.length fl 0 (by omega) (by omega) (fun j _ h=>by omega)
 rw [show ((0:Nat):Int) = 0 from rfl] at e1 e2;rw [e1,e2,ob_some];cases s with
 | inl u=>rw [if_neg (fun k=>by obtain ⟨u,hu⟩:=hs.2 k.2.2; cases hu)]; exact ⟨rfl,rfl⟩
 | inr u=>rw [if_pos ⟨by omega,by omega,hs.1 ⟨_,rfl⟩⟩]; exact ⟨rfl,rfl⟩
def asks (l:List Ins):Prop:=∃ x ∈ l,x.1 = 13 \/ x.1 = 14
instance (l:List Ins):Decidable (asks l):=by unfold asks; infer_instance
theorem asks_one (x:Ins):code_asks x = some (decide (x.1 = 13 \/ x.1 = 14)):=by
 unfold code_asks;rw [bnd_eq,bnd_eq];by_cases h:x.1 = 13
 ·rw [eq_t h,bite_t,decide_eq_true (.inl h)]
 ·rw [eq_f h,bite_f,f_eq]; congr 1; rw [decide_eq_decide]; omega
theorem asks_loop (fl:Nat) {l:List Ins} (hs:l.length <= 100):∀ (k n i:Nat),i + k = l.length -> k + 1 <= n -> (∀ (j:Nat) (h:j < l.length),j < i -> ¬ (l[j].1 = 13 \/ l[j].1 = 14)) ->
  (∃ s,slices_IndexFunc_l1 fl n l () l.length i = some s /\ ((∃ u,s = .inr u) /\ ¬ asks l \/ (∃ z,s = .inl z /\ 0 <= z.1) /\ asks l)) /\
  (∃ s,glazierref12_Samples_l1 fl n l i = some s /\ ((∃ u,s = .inr u) /\ ¬ asks l \/ (∃ z,s = .inl z) /\ asks l))
 | 0,n,i,hk,hn,hj=>by
  obtain ⟨n,rfl⟩:∃ m,n = m + 1:=⟨n - 1,by omega⟩
  simp only [slices_IndexFunc_l1,glazierref12_Samples_l1,lenK,bnd_eq];rw [lt_f (by omega),bite_f,bite_f]
  have no:¬ asks l:=fun ⟨x,hx,h⟩=>by
   obtain ⟨j,hjl,rfl⟩:=List.getElem_of_mem hx;exact hj j hjl (by omega) h
  exact ⟨⟨_,rfl,.inl ⟨⟨_,rfl⟩,no⟩⟩,⟨_,rfl,.inl ⟨⟨_,rfl⟩,no⟩⟩⟩
 | k + 1,n,i,hk,hn,hj=>by
  obtain ⟨n,rfl⟩:∃ m,n = m + 1:=⟨n - 1,by omega⟩
  have hm:=List.getElem_mem (show i < l.length by omega)
  simp only [slices_IndexFunc_l1,glazierref12_Samples_l1,lenK,bnd_eq];rw [lt_t (by omega),bite_t,bite_t,lgetK (show i < l.length by omega),ob_some,ob_some,asks_one,ob_some]
  by_cases h:l[i].1 = 13 \/ l[i].1 = 14
  ·have yes:asks l:=⟨_,hm,h⟩;rw [decide_eq_true h,bite_t];refine ⟨⟨_,rfl,.inr ⟨⟨_,rfl,by simp only; omega⟩,yes⟩⟩,?_⟩
   by_cases h1:l[i].1 = 13
   ·rw [eq_t h1,bite_t]; exact ⟨_,rfl,.inr ⟨⟨_,rfl⟩,yes⟩⟩
   ·rw [eq_f h1,bite_f,ob_some,eq_t (h.resolve_left h1),bite_t]; exact ⟨_,rfl,.inr ⟨⟨_,rfl⟩,yes⟩⟩
  ·have:=asks_loop fl hs k n (i + 1) (by omega) (by omega) (fun j h' hji=>by
    rcases Nat.lt_or_eq_of_le (show j <= i by omega) with q | q
    ·exact hj j h' q
    ·subst q; exact h)
   rw [decide_eq_false h,bite_f,addI (by omega),eq_f (by omega),bite_f,ob_some,eq_f (by omega),bite_f]
   exact this
theorem asks_spec {fl:Nat} (hfl:101 <= fl) {l:List Ins} (hl:l.length <= 100):code_Samples fl l = some (decide (asks l)) /\ glazierref12_Samples fl l = some (decide (asks l)):=by
 obtain ⟨⟨s,e1,hs⟩,⟨s',e2,hs'⟩⟩:=asks_loop fl hl l.length fl 0 (by omega) (by omega) (fun j _ h=>by omega)
 rw [show ((0:Nat):Int) = 0 from rfl] at e1 e2;constructor
 ·unfold code_Samples slices_ContainsFunc slices_IndexFunc;rw [bnd_eq,lenK,e1,ob_some];rcases hs with ⟨⟨u,rfl⟩,h⟩ | ⟨⟨z,rfl,hz⟩,h⟩
  ·rw [decide_eq_false h]; rfl
  ·rw [decide_eq_true h,osum,ob_some,bnd_eq,ge_t hz,ob_some]
 ·unfold glazierref12_Samples;rw [e2,ob_some];rcases hs' with ⟨⟨u,rfl⟩,h⟩ | ⟨⟨z,rfl⟩,h⟩
  ·rw [decide_eq_false h]; rfl
  ·rw [decide_eq_true h]; rfl
end Go.Proofs.Ytkacojopcajboaa.VM
namespace Go.Proofs.Ytkacojopcajboaa.VM
open Go Go.RowKit Go.Proofs.Ytkacojopcajboaa.M Go.Proofs.Ytkacojopcajboaa.G Go.Proofs.Ytkacojopcajboaa.VM
def W (n:Int):Int:=IntKind.wrap .i32 n
def r32 (n:Int):Prop:=-2147483648 <= n /\ n <= 2147483647
def i64 (n:Int):Prop:=-9223372036854775808 <= n /\ n <= 9223372036854775807
theorem W_eq (n:Int):W n = (n + 2147483648) % 4294967296 - 2147483648:=by
 unfold W;simp only [IntKind.wrap,IntKind.bits,IntKind.signed];simp;split <;> omega
theorem W_32 (n:Int):r32 (W n):=by unfold r32; rw [W_eq]; omega
theorem W_id {n:Int} (h:r32 n):W n = n:=by unfold r32 at h; rw [W_eq]; omega
theorem W_wrap (n:Int):W (IntKind.wrap .i64 n) = W n:=by
 rw [W_eq,W_eq];simp only [IntKind.wrap,IntKind.bits,IntKind.signed];simp;split <;> omega
theorem W_mod (n:Int):W (n % 4294967296) = W n:=by rw [W_eq,W_eq]; omega
theorem vwrap (n:Int):vm_wrap n = some (W n):=by
 unfold vm_wrap;have:=W_32 n;unfold r32 at this;rw [bnd_eq,bnd_eq,show F.conv .i32 n = W n from rfl,convI (by omega)]
theorem rwrap {n:Int} (h:i64 n):glazierref13_Wrap n = some (W n):=by
 unfold i64 at h;unfold glazierref13_Wrap;have h1:=tmod_lt (a:=n) (m:=4294967296) (by decide)
 have h2:=tmod_as (x:=n) (w:=4294967296) (by decide)
 have h3:=mod_in (x:=n) (w:=4294967296) (by decide)
 simp only [bnd_eq];rw [show F.rem n 4294967296 = Int.tmod n 4294967296 from rfl];by_cases h4:Int.tmod n 4294967296 < 0
 ·rw [lt_t h4,bite_t,addI (by omega)]
  split at h2
  ·omega
  by_cases h5:2147483648 <= Int.tmod n 4294967296 + 4294967296
  ·rw [ge_t h5,bite_t,subI (by omega),W_eq]; congr 1; omega
  ·rw [ge_f (by omega),bite_f,W_eq]; congr 1; omega
 ·rw [lt_f (by omega),bite_f]
  split at h2
  ·by_cases h5:2147483648 <= Int.tmod n 4294967296
   ·rw [ge_t h5,bite_t,subI (by omega),W_eq]; congr 1; omega
   ·rw [ge_f (by omega),bite_f,W_eq]; congr 1; omega
  ·omega
/-! ### Bits -/
def bitop (both:Bool) (a b:Nat):Nat:=if both then a &&& b else a ||| b
def bop (both:Bool) (p q:Bool):Bool:=if both then p && q else p || q
theorem bitop_bit (both:Bool) (a b i:Nat):(bitop both a b).testBit i = bop both (a.testBit i) (b.testBit i):=by
 cases both
 ·exact Nat.testBit_or ..
 ·exact Nat.testBit_and ..
theorem mod_step (z i:Nat):z % 2 ^ (i + 1) = z % 2 ^ i + (if z.testBit i then 2 ^ i else 0):=by
 rw [Nat.mod_pow_succ,Nat.testBit_eq_decide_div_mod_eq];have:=Nat.mod_two_eq_zero_or_one (z / 2 ^ i);rcases this with h | h
 ·rw [h]; simp
 ·rw [h]; simp
theorem bit_of (z i:Nat) (hi:i < 32):F.eq (F.rem (F.shr .u64 (z:Int) (i:Int)) 2) 1 = z.testBit i:=by
 unfold F.shr F.rem;rw [show Min.min (i:Int).toNat IntKind.u64.bits = i from by simp [IntKind.bits]; omega,Int.fdiv_eq_ediv_of_nonneg _ (Int.le_of_lt (Int.pow_pos (by decide)))]
 have e:(z:Int) / 2 ^ i = ((z / 2 ^ i:Nat):Int):=by rw [Int.natCast_ediv,Int.natCast_pow]; rfl
 rw [e,Int.tmod_eq_emod_of_nonneg (Int.natCast_nonneg _),Nat.testBit_eq_decide_div_mod_eq,f_eq,decide_eq_decide];omega
theorem shl1 {i:Nat} (hi:i < 32):F.shl .i64 1 (i:Int) = ((2 ^ i:Nat):Int):=by
 have h:2 ^ i < 2 ^ 32:=Nat.pow_lt_pow_right (by decide) hi
 unfold F.shl;rw [show Min.min (i:Int).toNat IntKind.i64.bits = i from by simp [IntKind.bits]; omega,Int.one_mul,wrapI]
 ·rw [Int.natCast_pow]; rfl
 ·exact Int.le_trans (by decide) (Int.le_of_lt (Int.pow_pos (by decide)))
 ·have:((2 ^ i:Nat):Int) < ((2 ^ 32:Nat):Int):=by omega
  rw [Int.natCast_pow] at this;have e:((2:Nat):Int) = 2:=rfl;rw [e] at this;omega
theorem bits_loop (fl:Nat) (both:Bool) (x y:Nat):∀ (k n i:Nat),i + k = 32 -> k + 1 <= n ->
  glazierref13_bits_l1 fl n both ((bitop both x y % 2 ^ i:Nat):Int) (x:Int) (y:Int) (i:Int) = some (((bitop both x y % 2 ^ 32:Nat):Int),())
 | 0,n,i,hk,hn=>by
  obtain ⟨n,rfl⟩:∃ m,n = m + 1:=⟨n - 1,by omega⟩
  obtain rfl:i = 32:=by omega
  rw [glazierref13_bits_l1,bnd_eq,lt_f (by decide),bite_f]
 | k + 1,n,i,hk,hn=>by
  obtain ⟨n,rfl⟩:∃ m,n = m + 1:=⟨n - 1,by omega⟩
  have ih:=bits_loop fl both x y k n (i + 1) (by omega) (by omega)
  have h:2 ^ i < 2 ^ 32:=Nat.pow_lt_pow_right (by decide) (by omega)
  have hm:bitop both x y % 2 ^ i < 2 ^ i:=Nat.mod_lt _ (Nat.pow_pos (by decide))
  rw [mod_step,bitop_bit] at ih;rw [glazierref13_bits_l1];simp only [bnd_eq];rw [lt_t (by omega),bite_t,nn_t (by omega),bgd_t,bgd_t,bit_of x i (by omega),bit_of y i (by omega),shl1 (by omega),addI (by omega),addI (by omega)]
  have ci:((i + 1:Nat):Int) = (i:Int) + 1:=rfl;rw [ci] at ih;have no:bop both (x.testBit i) (y.testBit i) = false -> glazierref13_bits_l1 fl n both ((bitop both x y % 2 ^ i:Nat):Int) (x:Int) (y:Int) ((i:Int) + 1) = some (((bitop both x y % 2 ^ 32:Nat):Int),()):=fun h=>by
   rw [h] at ih; exact ih
  have yes:bop both (x.testBit i) (y.testBit i) = true -> glazierref13_bits_l1 fl n both (((bitop both x y % 2 ^ i:Nat):Int) + ((2 ^ i:Nat):Int)) (x:Int) (y:Int) ((i:Int) + 1) = some (((bitop both x y % 2 ^ 32:Nat):Int),()):=fun h=>by
   rw [h] at ih; rw [<- ih]; simp
  cases both <;> cases hx:x.testBit i <;> cases hy:y.testBit i <;> rw [hx,hy] at no yes <;>
   simp only [bite_t,bite_f,bgd_t,not_t,not_f] <;> first | exact no rfl | exact yes rfl
theorem bits_spec {fl:Nat} (hfl:40 <= fl) {a b:Int} (ha:r32 a) (hb:r32 b) (both:Bool) :
  glazierref13_bits fl a b both = some (W ((bitop both (a % 4294967296).toNat (b % 4294967296).toNat:Nat):Int)):=by
 unfold r32 at ha hb;unfold glazierref13_bits;have conv:∀ x:Int,-2147483648 <= x -> x <= 2147483647 -> F.rem (F.conv .u64 x) 4294967296 = (((x % 4294967296).toNat:Nat):Int):=fun x h0 h1=>by
  unfold F.conv F.rem
  simp only [IntKind.wrap,IntKind.bits,IntKind.signed];simp;rw [Int.tmod_eq_emod_of_nonneg (by omega)]
  omega
 have l:=bits_loop fl both (a % 4294967296).toNat (b % 4294967296).toNat 32 fl 0 (by omega) (by omega)
 simp only [Nat.pow_zero,Nat.mod_one] at l;simp only [bnd_eq];rw [conv a ha.1 ha.2,conv b hb.1 hb.2]
 rw [show (0:Int) = ((0:Nat):Int) from rfl];rw [l,ob_some,rwrap (by unfold i64; have:bitop both (a % 4294967296).toNat (b % 4294967296).toNat % 2 ^ 32 < 2 ^ 32:=Nat.mod_lt _ (by decide); simp only; omega),ob_some,Int.natCast_emod]
 rw [show (((2 ^ 32:Nat)):Int) = 4294967296 from rfl,W_mod]
theorem and64 {a b:Int}:W (F.and .i64 a b) = W ((bitop true (a % 4294967296).toNat (b % 4294967296).toNat:Nat):Int):=by
 unfold F.and;rw [W_wrap,<- W_mod,<- W_mod ((bitop true _ _:Nat):Int)]
 congr 1
 have e:(4294967296:Int) = ((2 ^ 32:Nat):Int):=rfl;rw [e,<- Int.natCast_emod,<- Int.natCast_emod]
 congr 1
 rw [BitVec.toNat_and];unfold bitop;rw [if_pos rfl,Nat.and_mod_two_pow,Nat.and_mod_two_pow (a:=(a % _).toNat)];have k:∀ x:Int,(BitVec.ofInt IntKind.i64.bits x).toNat % 2 ^ 32 = (x % ((2 ^ 32:Nat):Int)).toNat % 2 ^ 32:=fun x=>by
  rw [BitVec.toNat_ofInt];simp only [IntKind.bits];omega
 rw [k,k]
theorem or64 {a b:Int}:W (F.or .i64 a b) = W ((bitop false (a % 4294967296).toNat (b % 4294967296).toNat:Nat):Int):=by
 unfold F.or;rw [W_wrap,<- W_mod,<- W_mod ((bitop false _ _:Nat):Int)]
 congr 1
 have e:(4294967296:Int) = ((2 ^ 32:Nat):Int):=rfl;rw [e,<- Int.natCast_emod,<- Int.natCast_emod]
 congr 1
 rw [BitVec.toNat_or];unfold bitop;rw [if_neg (by decide),Nat.or_mod_two_pow,Nat.or_mod_two_pow (a:=(a % _).toNat)]
 have k:∀ x:Int,(BitVec.ofInt IntKind.i64.bits x).toNat % 2 ^ 32 = (x % ((2 ^ 32:Nat):Int)).toNat % 2 ^ 32:=fun x=>by
  rw [BitVec.toNat_ofInt];simp only [IntKind.bits];omega
 rw [k,k]
/-! ### What D becomes -/
def vval (x:Ins) (a b:Int):Int:=
 if x.1 = 0 then x.2.2.2.2 else if x.1 = 1 then a else if x.1 = 2 then W (a + b) else if x.1 = 3 then W (a - b) else
 if x.1 = 4 then W (Int.fdiv (a * b) 256) else if x.1 = 5 then min a b else if x.1 = 6 then max a b else
 if x.1 = 7 then W ((bitop true (a % 4294967296).toNat (b % 4294967296).toNat:Nat):Int) else
 if x.1 = 8 then W ((bitop false (a % 4294967296).toNat (b % 4294967296).toNat:Nat):Int) else
 if x.1 = 9 then W (a * 2 ^ x.2.2.2.2.toNat) else if x.1 = 10 then Int.fdiv a (2 ^ x.2.2.2.2.toNat) else if a < b then 1 else 0
def plain (x:Ins):Prop:=(0 <= x.1 /\ x.1 <= 11) /\ (x.1 = 0 -> r32 x.2.2.2.2) /\ (x.1 = 9 \/ x.1 = 10 -> 0 <= x.2.2.2.2 /\ x.2.2.2.2 <= 31)
theorem prod32 {a b:Int} (ha:r32 a) (hb:r32 b):-4611686018427387904 <= a * b /\ a * b <= 4611686018427387904:=by
 unfold r32 at ha hb;have h1:(a.natAbs:Int) <= 2147483648:=by omega
 have h2:(b.natAbs:Int) <= 2147483648:=by omega
 have h3:(a.natAbs:Int) * (b.natAbs:Int) <= 2147483648 * 2147483648:=Int.mul_le_mul h1 h2 (by omega) (by decide)
 have h4:((a * b).natAbs:Int) = (a.natAbs:Int) * (b.natAbs:Int):=by rw [Int.natAbs_mul,Int.natCast_mul]
 omega
theorem pow32 {n:Nat} (h:n <= 31):1 <= (2:Int) ^ n /\ (2:Int) ^ n <= 2147483648:=by
 have h1:2 ^ n <= 2 ^ 31:=Nat.pow_le_pow_right (by decide) h
 have h2:1 <= 2 ^ n:=Nat.one_le_two_pow;have e:(2:Int) ^ n = ((2 ^ n:Nat):Int):=by rw [Int.natCast_pow]; rfl
 rw [e];omega
theorem shl_in {a:Int} {n:Nat} (ha:r32 a) (h:n <= 31):-4611686018427387904 <= a * 2 ^ n /\ a * 2 ^ n <= 4611686018427387904:=by
 have hp:=pow32 h;unfold r32 at ha;have h1:(a.natAbs:Int) <= 2147483648:=by omega
 have h2:(((2:Int) ^ n).natAbs:Int) <= 2147483648:=by omega
 have h3:(a.natAbs:Int) * (((2:Int) ^ n).natAbs:Int) <= 2147483648 * 2147483648:=Int.mul_le_mul h1 h2 (by omega) (by decide)
 have h4:((a * 2 ^ n).natAbs:Int) = (a.natAbs:Int) * (((2:Int) ^ n).natAbs:Int):=by rw [Int.natAbs_mul,Int.natCast_mul]
 omega
theorem min_n {N:Int} (h:0 <= N /\ N <= 31):Min.min N.toNat IntKind.i64.bits = N.toNat:=by simp [IntKind.bits]; omega
theorem vshl {a N:Int} (ha:r32 a) (h:0 <= N /\ N <= 31):F.shl .i64 a N = a * 2 ^ N.toNat:=by
 have:=shl_in (a:=a) (n:=N.toNat) ha (by omega)
 unfold F.shl;rw [min_n h,wrapI (by omega) (by omega)]
theorem vshl1 {N:Int} (h:0 <= N /\ N <= 31):F.shl .i64 1 N = 2 ^ N.toNat:=by
 rw [vshl (by unfold r32; omega) h,Int.one_mul]
theorem vshr {a N:Int} (h:0 <= N /\ N <= 31):F.shr .i64 a N = Int.fdiv a (2 ^ N.toNat):=by
 unfold F.shr;rw [min_n h]
theorem fdiv_32 {a N:Int} (ha:r32 a) (h:0 <= N /\ N <= 31):r32 (Int.fdiv a (2 ^ N.toNat)):=by
 have hp:=pow32 (n:=N.toNat) (by omega)
 unfold r32 at ha;have:=fdiv_lim (p:=a) (c:=2 ^ N.toNat) (m:=2147483648) (by omega) (by omega) (by omega) (by omega)
 refine ⟨this.1,?_⟩;have h1:=(fdiv_in (p:=a) (c:=2 ^ N.toNat) (by omega)).1
 refine Int.not_lt.1 fun k=>?_
 have:2 ^ N.toNat * 1 <= 2 ^ N.toNat * Int.fdiv a (2 ^ N.toNat):=Int.mul_le_mul_of_nonneg_left (by omega) (by omega)
 have k2:1 * Int.fdiv a (2 ^ N.toNat) <= 2 ^ N.toNat * Int.fdiv a (2 ^ N.toNat):=Int.mul_le_mul_of_nonneg_right (by omega) (by omega)
 omega
theorem vval_32 {x:Ins} {a b:Int} (hx:plain x) (ha:r32 a) (hb:r32 b):r32 (vval x a b):=by
 have ha':=ha; have hb':=hb;unfold r32 at ha' hb';unfold vval;by_cases e0:x.1 = 0
 ·rw [if_pos e0]; exact hx.2.1 e0
 rw [if_neg e0];by_cases e1:x.1 = 1
 ·rw [if_pos e1]; exact ha
 rw [if_neg e1];by_cases e2:x.1 = 2
 ·rw [if_pos e2]; exact W_32 _
 rw [if_neg e2];by_cases e3:x.1 = 3
 ·rw [if_pos e3]; exact W_32 _
 rw [if_neg e3];by_cases e4:x.1 = 4
 ·rw [if_pos e4]; exact W_32 _
 rw [if_neg e4];by_cases e5:x.1 = 5
 ·rw [if_pos e5]; unfold r32; omega
 rw [if_neg e5];by_cases e6:x.1 = 6
 ·rw [if_pos e6]; unfold r32; omega
 rw [if_neg e6];by_cases e7:x.1 = 7
 ·rw [if_pos e7]; exact W_32 _
 rw [if_neg e7];by_cases e8:x.1 = 8
 ·rw [if_pos e8]; exact W_32 _
 rw [if_neg e8];by_cases e9:x.1 = 9
 ·rw [if_pos e9]; exact W_32 _
 rw [if_neg e9];by_cases e10:x.1 = 10
 ·rw [if_pos e10]; exact fdiv_32 ha (hx.2.2 (.inr e10))
 rw [if_neg e10];by_cases e:a < b
 ·rw [if_pos e]; unfold r32; omega
 ·rw [if_neg e]; unfold r32; omega
theorem vm_val {x:Ins} {a b:Int} (hx:plain x) (ha:r32 a) (hb:r32 b):∃ v,vm_value x a b = some v /\ W v = vval x a b:=by
 obtain ⟨o,D,A,B,N⟩:=x;obtain ⟨⟨h0,h1⟩,h2,h3⟩:=hx;have pr:=prod32 ha hb;have ha':=ha; have hb':=hb;unfold r32 at ha' hb';unfold vm_value vval;simp only at h0 h1 h2 h3 ⊢;simp only [bnd_eq];by_cases e0:o = 0
 ·rw [eq_t e0,bite_t,if_pos e0]; exact ⟨_,rfl,W_id (h2 e0)⟩
 rw [eq_f e0,bite_f,if_neg e0];by_cases e1:o = 1
 ·rw [eq_t e1,bite_t,if_pos e1]; exact ⟨_,rfl,W_id ha⟩
 rw [eq_f e1,bite_f,if_neg e1];by_cases e2:o = 2
 ·rw [eq_t e2,bite_t,if_pos e2,addI (by omega)]; exact ⟨_,rfl,rfl⟩
 rw [eq_f e2,bite_f,if_neg e2];by_cases e3:o = 3
 ·rw [eq_t e3,bite_t,if_pos e3,subI (by omega)]; exact ⟨_,rfl,rfl⟩
 rw [eq_f e3,bite_f,if_neg e3];by_cases e4:o = 4
 ·rw [eq_t e4,bite_t,if_pos e4,mulI (by omega),vshr (by decide)]; exact ⟨_,rfl,by rw [show (2:Int) ^ (8:Int).toNat = 256 from by decide]⟩
 rw [eq_f e4,bite_f,if_neg e4];by_cases e5:o = 5
 ·rw [eq_t e5,bite_t,if_pos e5,f_min]; exact ⟨_,rfl,W_id (by unfold r32; omega)⟩
 rw [eq_f e5,bite_f,if_neg e5];by_cases e6:o = 6
 ·rw [eq_t e6,bite_t,if_pos e6,f_max]; exact ⟨_,rfl,W_id (by unfold r32; omega)⟩
 rw [eq_f e6,bite_f,if_neg e6];by_cases e7:o = 7
 ·rw [eq_t e7,bite_t,if_pos e7]; exact ⟨_,rfl,and64⟩
 rw [eq_f e7,bite_f,if_neg e7];by_cases e8:o = 8
 ·rw [eq_t e8,bite_t,if_pos e8]; exact ⟨_,rfl,or64⟩
 rw [eq_f e8,bite_f,if_neg e8];by_cases e9:o = 9
 ·rw [eq_t e9,bite_t,if_pos e9,nn_t (h3 (.inl e9)).1,bgd_t,vshl ha (h3 (.inl e9))]; exact ⟨_,rfl,rfl⟩
 rw [eq_f e9,bite_f,if_neg e9];by_cases e10:o = 10
 ·rw [eq_t e10,bite_t,if_pos e10,nn_t (h3 (.inr e10)).1,bgd_t,vshr (h3 (.inr e10))]; exact ⟨_,rfl,W_id (fdiv_32 ha (h3 (.inr e10)))⟩
 rw [eq_f e10,bite_f,if_neg e10];by_cases e:a < b
 ·rw [lt_t e,if_pos e]; exact ⟨1,rfl,rfl⟩
 ·rw [lt_f (by omega),if_neg e]; exact ⟨0,rfl,rfl⟩
theorem ref_val {fl:Nat} (hfl:130 <= fl) {x:Ins} {a b:Int} (hx:plain x) (ha:r32 a) (hb:r32 b):glazierref13_value fl x a b = some (vval x a b):=by
 obtain ⟨o,D,A,B,N⟩:=x;obtain ⟨⟨h0,h1⟩,h2,h3⟩:=hx;have pr:=prod32 ha hb;have ha':=ha; have hb':=hb;unfold r32 at ha' hb';unfold glazierref13_value vval;simp only at h0 h1 h2 h3 ⊢;simp only [bnd_eq];by_cases e0:o = 0
 ·rw [eq_t e0,bite_t,if_pos e0]
 rw [eq_f e0,bite_f,if_neg e0];by_cases e1:o = 1
 ·rw [eq_t e1,bite_t,if_pos e1]
 rw [eq_f e1,bite_f,if_neg e1];by_cases e2:o = 2
 ·rw [eq_t e2,bite_t,if_pos e2,addI (by omega),rwrap (by unfold i64; omega),ob_some]
 rw [eq_f e2,bite_f,if_neg e2];by_cases e3:o = 3
 ·rw [eq_t e3,bite_t,if_pos e3,subI (by omega),rwrap (by unfold i64; omega),ob_some]
 rw [eq_f e3,bite_f,if_neg e3];by_cases e4:o = 4
 ·have:=fdiv_lim (p:=a * b) (c:=256) (m:=4611686018427387904) (by decide) (by omega) (by omega) (by decide)
  rw [eq_t e4,bite_t,if_pos e4,mulI (by omega),ref_down hfl (by omega) (by decide) (by decide),ob_some,rwrap (by unfold i64; omega),ob_some]
 rw [eq_f e4,bite_f,if_neg e4];by_cases e5:o = 5
 ·rw [eq_t e5,bite_t,if_pos e5,f_min]
 rw [eq_f e5,bite_f,if_neg e5];by_cases e6:o = 6
 ·rw [eq_t e6,bite_t,if_pos e6,f_max]
 rw [eq_f e6,bite_f,if_neg e6];by_cases e7:o = 7
 ·rw [eq_t e7,bite_t,if_pos e7,bits_spec (by omega) ha hb,ob_some]
 rw [eq_f e7,bite_f,if_neg e7];by_cases e8:o = 8
 ·rw [eq_t e8,bite_t,if_pos e8,bits_spec (by omega) ha hb,ob_some]
 rw [eq_f e8,bite_f,if_neg e8];by_cases e9:o = 9
 ·have:=shl_in (n:=N.toNat) ha (by have:=h3 (.inl e9); omega)
  rw [eq_t e9,bite_t,if_pos e9,nn_t (h3 (.inl e9)).1,bgd_t,vshl1 (h3 (.inl e9)),mulI (by omega),rwrap (by unfold i64; omega),ob_some]
 rw [eq_f e9,bite_f,if_neg e9];by_cases e10:o = 10
 ·have:=pow32 (n:=N.toNat) (by have:=h3 (.inr e10); omega)
  rw [eq_t e10,bite_t,if_pos e10,nn_t (h3 (.inr e10)).1,bgd_t,vshl1 (h3 (.inr e10)),ref_down hfl (by omega) (by omega) (by omega),ob_some]
 rw [eq_f e10,bite_f,if_neg e10,eq_t (by omega),bite_t]
 by_cases e:a < b
 ·rw [lt_t e,if_pos e]; rfl
 ·rw [lt_f (by omega),if_neg e]; rfl
end Go.Proofs.Ytkacojopcajboaa.VM
namespace Go.Proofs.Ytkacojopcajboaa.VM
open Go Go.RowKit Go.Proofs.Ytkacojopcajboaa.M Go.Proofs.Ytkacojopcajboaa.G Go.Proofs.Ytkacojopcajboaa.VM
abbrev R8:=Int × Int × Int × Int × Int × Int × Int × Int
def put (r:R8) (d v:Int):R8:=(F.pick d 0 v r.1,(F.pick d 1 v r.2.1,(F.pick d 2 v r.2.2.1,(F.pick d 3 v r.2.2.2.1,(F.pick d 4 v r.2.2.2.2.1,(F.pick d 5 v r.2.2.2.2.2.1,(F.pick d 6 v r.2.2.2.2.2.2.1,F.pick d 7 v r.2.2.2.2.2.2.2)))))))
def put4 (r:R8) (d:Int) (c:Pix):R8:=put (put (put (put r d c.1) (d + 1) c.2.1) (d + 2) c.2.2.1) (d + 3) c.2.2.2
def reg (r:R8) (i:Int):Int:=([r.1,r.2.1,r.2.2.1,r.2.2.2.1,r.2.2.2.2.1,r.2.2.2.2.2.1,r.2.2.2.2.2.2.1,r.2.2.2.2.2.2.2]:List Int).getD i.toNat 0
def regs32 (r:R8):Prop:=r32 r.1 /\ r32 r.2.1 /\ r32 r.2.2.1 /\ r32 r.2.2.2.1 /\ r32 r.2.2.2.2.1 /\ r32 r.2.2.2.2.2.1 /\ r32 r.2.2.2.2.2.2.1 /\ r32 r.2.2.2.2.2.2.2
def W8 (r:R8):R8:=(W r.1,(W r.2.1,(W r.2.2.1,(W r.2.2.2.1,(W r.2.2.2.2.1,(W r.2.2.2.2.2.1,(W r.2.2.2.2.2.2.1,W r.2.2.2.2.2.2.2)))))))
theorem W8_32 (r:R8):regs32 (W8 r):=⟨W_32 _,W_32 _,W_32 _,W_32 _,W_32 _,W_32 _,W_32 _,W_32 _⟩
theorem reg_in {i:Int} (h0:0 <= i) (h:i <= 7):i = 0 \/ i = 1 \/ i = 2 \/ i = 3 \/ i = 4 \/ i = 5 \/ i = 6 \/ i = 7:=by omega
theorem get_reg {r:R8} {i:Int} (h0:0 <= i) (h:i <= 7):F.get [r.1,r.2.1,r.2.2.1,r.2.2.2.1,r.2.2.2.2.1,r.2.2.2.2.2.1,r.2.2.2.2.2.2.1,r.2.2.2.2.2.2.2] i = some (reg r i):=by
 rcases reg_in h0 h with rfl | rfl | rfl | rfl | rfl | rfl | rfl | rfl <;> rfl
theorem reg_32 {r:R8} (hr:regs32 r) {i:Int} (h0:0 <= i) (h:i <= 7):r32 (reg r i):=by
 obtain ⟨a,b,c,d,e,f,g,k⟩:=hr;rcases reg_in h0 h with rfl | rfl | rfl | rfl | rfl | rfl | rfl | rfl <;> assumption
theorem pick_32 {d:Int} {k:Nat} {v o:Int} (hv:r32 v) (ho:r32 o):r32 (F.pick d k v o):=by
 unfold F.pick; split <;> assumption
theorem put_32 {r:R8} (hr:regs32 r) {d v:Int} (hv:r32 v):regs32 (put r d v):=by
 obtain ⟨a,b,c,e,f,g,h,k⟩:=hr;exact ⟨pick_32 hv a,pick_32 hv b,pick_32 hv c,pick_32 hv e,pick_32 hv f,pick_32 hv g,pick_32 hv h,pick_32 hv k⟩
theorem byte_32 {x:Int} (h:byte x):r32 x:=by unfold byte at h; unfold r32; omega
theorem put4_32 {r:R8} (hr:regs32 r) {d:Int} {c:Pix} (hc:pix c):regs32 (put4 r d c):=
 put_32 (put_32 (put_32 (put_32 hr (byte_32 hc.1)) (byte_32 hc.2.1)) (byte_32 hc.2.2.1)) (byte_32 hc.2.2.2)
theorem within8 {d:Int} (h0:0 <= d) (h:d <= 7):F.within d 8 = true:=by
 unfold F.within; rw [decide_eq_true h0,decide_eq_true (by omega)]; rfl
def stp (t:Tx) (x:Ins) (pc:Int) (r:R8):Int × R8:=
 if x.1 = 12 then (if reg r x.2.2.1 = 0 then pc + 1 else pc + 1 + x.2.2.2.2,r)
 else if x.1 = 13 then (pc + 1,put4 r x.2.1 (tnear t (reg r x.2.2.1) (reg r x.2.2.2.1)))
 else if x.1 = 14 then (pc + 1,put4 r x.2.1 (tsm t (reg r x.2.2.1) (reg r x.2.2.2.1)))
 else (pc + 1,put r x.2.1 (vval x (reg r x.2.2.1) (reg r x.2.2.2.1)))
noncomputable def vmL (fl n:Nat) (l:List Ins) (s pc:Int) (t:Tx) (r:R8):=vm_Run_l2 fl n l s pc t.1 t.2.1 t.2.2 r.1 r.2.1 r.2.2.1 r.2.2.2.1 r.2.2.2.2.1 r.2.2.2.2.2.1 r.2.2.2.2.2.2.1 r.2.2.2.2.2.2.2
noncomputable def refL (fl n:Nat) (l:List Ins) (s pc:Int) (t:Tx) (r:R8):=glazierref13_Run_l1 fl n l s pc t.1 t.2.1 t.2.2 r.1 r.2.1 r.2.2.1 r.2.2.2.1 r.2.2.2.2.1 r.2.2.2.2.2.1 r.2.2.2.2.2.2.1 r.2.2.2.2.2.2.2
theorem put1_spec {fl:Nat} (hfl:3 <= fl) {d v:Int} (h0:0 <= d) (h:d <= 7) (l:List Ins) (s pc d':Int) (w hh:Int) (px:List Pix) (r:R8) :
  vm_Run_i69_l3 fl fl d [v] 1 0 l s pc d' w hh px r.1 r.2.1 r.2.2.1 r.2.2.2.1 r.2.2.2.2.1 r.2.2.2.2.2.1 r.2.2.2.2.2.2.1 r.2.2.2.2.2.2.2 =
  some (l,(s,(pc,(d',(w,(hh,(px,((put r d (W v)).1,((put r d (W v)).2.1,((put r d (W v)).2.2.1,((put r d (W v)).2.2.2.1,((put r d (W v)).2.2.2.2.1,((put r d (W v)).2.2.2.2.2.1,((put r d (W v)).2.2.2.2.2.2.1,((put r d (W v)).2.2.2.2.2.2.2,()))))))))))))))):=by
 obtain ⟨n,rfl⟩:∃ n,fl = n + 3:=⟨fl - 3,by omega⟩
 rw [vm_Run_i69_l3];simp only [bnd_eq];rw [lt_t (by decide),bite_t,show F.get [v] 0 = some v from rfl,ob_some,vwrap,ob_some,convI (by omega),addI (a:=d) (by omega),Int.add_zero,within8 h0 h,bgd_t,show F.add .i64 0 1 = 1 from rfl]
 rw [vm_Run_i69_l3];simp only [bnd_eq];rw [lt_f (by decide),bite_f]
 rfl
noncomputable def pl1 (fl n:Nat) (d:Int) (xs:List Int) (k:Int)  (l:List Ins) (s pc d':Int) (w hh:Int) (px:List Pix) (r:R8):=vm_Run_i69_l1 fl n d xs 4 k l s pc d' w hh px r.1 r.2.1 r.2.2.1 r.2.2.2.1 r.2.2.2.2.1 r.2.2.2.2.2.1 r.2.2.2.2.2.2.1 r.2.2.2.2.2.2.2
def pout1  (l:List Ins) (s pc d':Int) (w hh:Int) (px:List Pix) (r:R8):Option ((List (Int × Int × Int × Int × Int)) × Int × Int × Int × Int × Int × (List (Int × Int × Int × Int)) × Int × Int × Int × Int × Int × Int × Int × Int × Unit):=
 some (l,(s,(pc,(d',(w,(hh,(px,(r.1,(r.2.1,(r.2.2.1,(r.2.2.2.1,(r.2.2.2.2.1,(r.2.2.2.2.2.1,(r.2.2.2.2.2.2.1,(r.2.2.2.2.2.2.2,())))))))))))))))
theorem pl1_step {fl n:Nat} {d k v:Int} {xs:List Int} (h0:0 <= d) (h:d <= 4) (k0:0 <= k) (k4:k < 4) (e:F.get xs k = some v)  (l:List Ins) (s pc d':Int) (w hh:Int) (px:List Pix) (r:R8) :
  pl1 fl (n + 1) d xs k l s pc d' w hh px r = pl1 fl n d xs (k + 1) l s pc d' w hh px (put r (d + k) (W v)):=by
 unfold pl1;rw [vm_Run_i69_l1];simp only [bnd_eq];rw [lt_t k4,bite_t,e,ob_some,vwrap,ob_some,convI (by omega),addI (a:=d) (by omega),within8 (d:=d + k) (by omega) (by omega),bgd_t,addI (a:=k) (by omega)]
 rfl
theorem pl1_end {fl n:Nat} {d:Int} {xs:List Int}  (l:List Ins) (s pc d':Int) (w hh:Int) (px:List Pix) (r:R8) :
  pl1 fl (n + 1) d xs 4 l s pc d' w hh px r = pout1 l s pc d' w hh px r:=by
 unfold pl1 pout1;rw [vm_Run_i69_l1];simp only [bnd_eq];rw [lt_f (by decide),bite_f]
theorem put4_spec1 {fl:Nat} (hfl:6 <= fl) {d:Int} (h0:0 <= d) (h:d <= 4) (a b c e:Int)  (l:List Ins) (s pc d':Int) (w hh:Int) (px:List Pix) (r:R8) :
  vm_Run_i69_l1 fl fl d [a,b,c,e] 4 0 l s pc d' w hh px r.1 r.2.1 r.2.2.1 r.2.2.2.1 r.2.2.2.2.1 r.2.2.2.2.2.1 r.2.2.2.2.2.2.1 r.2.2.2.2.2.2.2 = pout1 l s pc d' w hh px (put4 r d (W a,(W b,(W c,W e)))):=by
 obtain ⟨n,rfl⟩:∃ n,fl = n + 6:=⟨fl - 6,by omega⟩
 show pl1 (n + 6) (n + 5 + 1) d [a,b,c,e] 0 l s pc d' w hh px r = _
 rw [pl1_step h0 h (by decide) (by decide) (v:=a) rfl,show (0:Int) + 1 = 1 from rfl,pl1_step h0 h (by decide) (by decide) (v:=b) rfl,show (1:Int) + 1 = 2 from rfl,
  pl1_step h0 h (by decide) (by decide) (v:=c) rfl,show (2:Int) + 1 = 3 from rfl,pl1_step h0 h (by decide) (by decide) (v:=e) rfl,show (3:Int) + 1 = 4 from rfl,pl1_end,Int.add_zero]
 rfl
noncomputable def pl2 (fl n:Nat) (d:Int) (xs:List Int) (k:Int)  (l:List Ins) (s pc d':Int) (w hh:Int) (px:List Pix) (r:R8):=vm_Run_i69_l2 fl n d xs 4 k l s pc d' w hh px r.1 r.2.1 r.2.2.1 r.2.2.2.1 r.2.2.2.2.1 r.2.2.2.2.2.1 r.2.2.2.2.2.2.1 r.2.2.2.2.2.2.2
def pout2  (l:List Ins) (s pc d':Int) (w hh:Int) (px:List Pix) (r:R8):Option ((List (Int × Int × Int × Int × Int)) × Int × Int × Int × Int × Int × (List (Int × Int × Int × Int)) × Int × Int × Int × Int × Int × Int × Int × Int × Unit):=
 some (l,(s,(pc,(d',(w,(hh,(px,(r.1,(r.2.1,(r.2.2.1,(r.2.2.2.1,(r.2.2.2.2.1,(r.2.2.2.2.2.1,(r.2.2.2.2.2.2.1,(r.2.2.2.2.2.2.2,())))))))))))))))
theorem pl2_step {fl n:Nat} {d k v:Int} {xs:List Int} (h0:0 <= d) (h:d <= 4) (k0:0 <= k) (k4:k < 4) (e:F.get xs k = some v)  (l:List Ins) (s pc d':Int) (w hh:Int) (px:List Pix) (r:R8) :
  pl2 fl (n + 1) d xs k l s pc d' w hh px r = pl2 fl n d xs (k + 1) l s pc d' w hh px (put r (d + k) (W v)):=by
 unfold pl2;rw [vm_Run_i69_l2];simp only [bnd_eq];rw [lt_t k4,bite_t,e,ob_some,vwrap,ob_some,convI (by omega),addI (a:=d) (by omega),within8 (d:=d + k) (by omega) (by omega),bgd_t,addI (a:=k) (by omega)]
 rfl
theorem pl2_end {fl n:Nat} {d:Int} {xs:List Int}  (l:List Ins) (s pc d':Int) (w hh:Int) (px:List Pix) (r:R8) :
  pl2 fl (n + 1) d xs 4 l s pc d' w hh px r = pout2 l s pc d' w hh px r:=by
 unfold pl2 pout2;rw [vm_Run_i69_l2];simp only [bnd_eq];rw [lt_f (by decide),bite_f]
theorem put4_spec2 {fl:Nat} (hfl:6 <= fl) {d:Int} (h0:0 <= d) (h:d <= 4) (a b c e:Int)  (l:List Ins) (s pc d':Int) (w hh:Int) (px:List Pix) (r:R8) :
  vm_Run_i69_l2 fl fl d [a,b,c,e] 4 0 l s pc d' w hh px r.1 r.2.1 r.2.2.1 r.2.2.2.1 r.2.2.2.2.1 r.2.2.2.2.2.1 r.2.2.2.2.2.2.1 r.2.2.2.2.2.2.2 = pout2 l s pc d' w hh px (put4 r d (W a,(W b,(W c,W e)))):=by
 obtain ⟨n,rfl⟩:∃ n,fl = n + 6:=⟨fl - 6,by omega⟩
 show pl2 (n + 6) (n + 5 + 1) d [a,b,c,e] 0 l s pc d' w hh px r = _
 rw [pl2_step h0 h (by decide) (by decide) (v:=a) rfl,show (0:Int) + 1 = 1 from rfl,pl2_step h0 h (by decide) (by decide) (v:=b) rfl,show (1:Int) + 1 = 2 from rfl,
  pl2_step h0 h (by decide) (by decide) (v:=c) rfl,show (2:Int) + 1 = 3 from rfl,pl2_step h0 h (by decide) (by decide) (v:=e) rfl,show (3:Int) + 1 = 4 from rfl,pl2_end,Int.add_zero]
 rfl
theorem mid32 {u:Int} (h:r32 u):mid u:=by unfold r32 at h; unfold mid; omega
theorem near_pix {t:Tx} (ht:pxs t) (u v:Int):pix (tnear t u v):=tat_pix ht _ _
theorem sm_pix {t:Tx} (ht:pxs t) (u v:Int):pix (tsm t u v):=
 mixC_pix (mixC_pix (tat_pix ht _ _) (tat_pix ht _ _) (frac_in _)) (mixC_pix (tat_pix ht _ _) (tat_pix ht _ _) (frac_in _)) (frac_in _)
theorem W_pix {c:Pix} (hc:pix c):(W c.1,(W c.2.1,(W c.2.2.1,W c.2.2.2))) = c:=by
 rw [W_id (byte_32 hc.1),W_id (byte_32 hc.2.1),W_id (byte_32 hc.2.2.1),W_id (byte_32 hc.2.2.2)]
theorem convB {x:Int} (h:byte x):F.conv .i64 x = x:=by unfold byte at h; exact convI (by omega)
theorem plain_of {x:Ins} {i n:Int} (hb:insB x) (h:iok x i n) (h12:x.1 ≠ 12) (h13:x.1 ≠ 13) (h14:x.1 ≠ 14):plain x:=by
 have hb1:=hb.1;unfold iok three at h;unfold byte at hb1;unfold plain r32;omega
theorem four_of {x:Ins} {i n:Int} (h:iok x i n) (h13:x.1 = 13 \/ x.1 = 14):x.2.1 <= 4:=by
 unfold iok three at h;omega
section
variable {fl n:Nat} (hfl:200 <= fl) {l:List Ins} {t:Tx} {i:Nat} (h:i < l.length) (hl:l.length <= 100) (hx:insB l[i]) (hk:iok l[i] i l.length) (ht:pxs t) {r:R8} (hr:regs32 r) {s:Int} (hs:0 <= s /\ s <= 1000)
include hfl hl hx hk ht hr hs
theorem vm_step:vmL fl (n + 1) l s i t r = vmL fl n l (s + 1) (stp t l[i] i r).1 t (stp t l[i] i r).2:=by
 unfold vmL;rw [vm_Run_l2];simp only [bnd_eq];rw [lenK,lt_t (by omega),bite_t,lgetK h,ob_some]
 have hp:=plain_of hx hk;have h4:=four_of hk;have hN:l[i].1 = 12 -> 0 <= l[i].2.2.2.2 /\ l[i].2.2.2.2 <= l.length - i - 1:=fun e=>by
  have:=hk.2; unfold three at this; omega
 have hn:l[i].2.1 <= 7 /\ l[i].2.2.1 <= 7 /\ l[i].2.2.2.1 <= 7:=hk.1;obtain ⟨ho,hD,hA,hB,-⟩:=hx;clear hk;generalize l[i] = x at *
 unfold byte at ho hD hA hB;have ra:=reg_32 hr hA.1 hn.2.1;have rb:=reg_32 hr hB.1 hn.2.2;rw [within8 hA.1 hn.2.1,bgd_t,get_reg hA.1 hn.2.1,ob_some,within8 hB.1 hn.2.2,bgd_t,get_reg hB.1 hn.2.2,ob_some,addI (a:=(i:Int)) (by omega)]
 unfold stp;by_cases e12:x.1 = 12
 ·rw [eq_t e12,bite_t,if_pos e12];have:=hN e12;by_cases e0:reg r x.2.2.1 = 0
  ·rw [ne_f e0,bite_f,if_pos e0,addI (a:=s) (by omega)]
  ·rw [ne_t e0,bite_t,if_neg e0,subI (a:=(i:Int) + 1) (by omega)]
   unfold code_Target;simp only [bnd_eq];rw [ne_f e12,bite_f,addI (a:=(i:Int) + 1 - 1) (by omega),addI (a:=(i:Int) + 1 - 1 + 1) (by omega),ob_some,addI (a:=s) (by omega),Int.add_sub_cancel]
 rw [eq_f e12,bite_f,if_neg e12];by_cases e13:x.1 = 13
 ·have c4:=near_pix ht (reg r x.2.2.1) (reg r x.2.2.2.1)
  rw [eq_t e13,bite_t,if_pos e13,near_spec (by omega) (mid32 ra) (mid32 rb),ob_some,convB c4.1,convB c4.2.1,convB c4.2.2.1,convB c4.2.2.2,
   show ∀ a b c d:Int,F.len [a,b,c,d] = 4 from fun _ _ _ _=>rfl,put4_spec1 (by omega) hD.1 (h4 (.inl e13)),pout1,ob_some]
  simp only;rw [addI (a:=s) (by omega),W_pix c4]
 rw [eq_f e13,bite_f,if_neg e13];by_cases e14:x.1 = 14
 ·have c4:=sm_pix ht (reg r x.2.2.1) (reg r x.2.2.2.1)
  rw [eq_t e14,bite_t,if_pos e14,smooth_spec (by omega) ht (mid32 ra) (mid32 rb),ob_some,convB c4.1,convB c4.2.1,convB c4.2.2.1,convB c4.2.2.2,
   show ∀ a b c d:Int,F.len [a,b,c,d] = 4 from fun _ _ _ _=>rfl,put4_spec2 (by omega) hD.1 (h4 (.inr e14)),pout2,ob_some]
  simp only;rw [addI (a:=s) (by omega),W_pix c4]
 rw [eq_f e14,bite_f,if_neg e14];obtain ⟨v,ev,ew⟩:=vm_val (hp e12 e13 e14) ra rb;rw [ev,ob_some,show F.len [v] = 1 from rfl,put1_spec (by omega) hD.1 hn.1,ob_some]
 simp only;rw [addI (a:=s) (by omega),ew]
theorem ref_step:refL fl (n + 1) l s i t r = refL fl n l (s + 1) (stp t l[i] i r).1 t (stp t l[i] i r).2:=by
 unfold refL;rw [glazierref13_Run_l1];simp only [bnd_eq];rw [lenK,lt_t (by omega),bite_t,lgetK h,ob_some]
 have hp:=plain_of hx hk;have h4:=four_of hk;have hN:l[i].1 = 12 -> 0 <= l[i].2.2.2.2 /\ l[i].2.2.2.2 <= l.length - i - 1:=fun e=>by
  have:=hk.2; unfold three at this; omega
 have hn:l[i].2.1 <= 7 /\ l[i].2.2.1 <= 7 /\ l[i].2.2.2.1 <= 7:=hk.1;obtain ⟨ho,hD,hA,hB,-⟩:=hx;clear hk;generalize l[i] = x at *
 unfold byte at ho hD hA hB;have ra:=reg_32 hr hA.1 hn.2.1;have rb:=reg_32 hr hB.1 hn.2.2;rw [within8 hA.1 hn.2.1,bgd_t,get_reg hA.1 hn.2.1,ob_some,within8 hB.1 hn.2.2,bgd_t,get_reg hB.1 hn.2.2,ob_some,addI (a:=(i:Int)) (by omega),addI (a:=s) (by omega)]
 unfold stp;have u8:∀ k:Int,0 <= k -> k <= 3 -> x.2.1 <= 4 -> F.add .u8 x.2.1 k = x.2.1 + k:=fun k k0 k3 hd=>by
  unfold F.add;simp only [IntKind.wrap,IntKind.bits,IntKind.signed];simp;omega
 by_cases e12:x.1 = 12
 ·rw [eq_t e12,bite_t,if_pos e12];have:=hN e12;by_cases e0:reg r x.2.2.1 = 0
  ·rw [ne_f e0,bite_f,if_pos e0]
  ·rw [ne_t e0,bite_t,if_neg e0];unfold glazierref12_Target;simp only [bnd_eq];rw [eq_t e12,bite_t,addI (a:=(i:Int)) (by omega),addI (a:=(i:Int) + 1) (by omega),ob_some]
 rw [eq_f e12,bite_f,if_neg e12];by_cases e13:x.1 = 13
 ·have c4:=near_pix ht (reg r x.2.2.1) (reg r x.2.2.2.1);have d4:=h4 (.inl e13)
  rw [eq_t e13,bite_t,if_pos e13,bite_t,ref_near (by omega) (mid32 ra) (mid32 rb),ob_some,eq_f (show x.1 ≠ 14 by omega),bite_f,convB c4.1,convB c4.2.1,convB c4.2.2.1,convB c4.2.2.2,
   within8 hD.1 hn.1,bgd_t,u8 1 (by decide) (by decide) d4,within8 (d:=x.2.1 + 1) (by omega) (by omega),bgd_t,u8 2 (by decide) (by decide) d4,within8 (d:=x.2.1 + 2) (by omega) (by omega),bgd_t,
   u8 3 (by decide) (by decide) d4,within8 (d:=x.2.1 + 3) (by omega) (by omega),bgd_t]
  rfl
 rw [eq_f e13,bite_f,if_neg e13];by_cases e14:x.1 = 14
 ·have c4:=sm_pix ht (reg r x.2.2.1) (reg r x.2.2.2.1);have d4:=h4 (.inr e14)
  rw [eq_t e14,bite_t,if_pos e14,ref_near (by omega) (mid32 ra) (mid32 rb),ob_some,bite_t,ref_smooth (by omega) ht (mid32 ra) (mid32 rb),ob_some,convB c4.1,convB c4.2.1,convB c4.2.2.1,convB c4.2.2.2,
   within8 hD.1 hn.1,bgd_t,u8 1 (by decide) (by decide) d4,within8 (d:=x.2.1 + 1) (by omega) (by omega),bgd_t,u8 2 (by decide) (by decide) d4,within8 (d:=x.2.1 + 2) (by omega) (by omega),bgd_t,
   u8 3 (by decide) (by decide) d4,within8 (d:=x.2.1 + 3) (by omega) (by omega),bgd_t]
  rfl
 rw [eq_f e14,bite_f,if_neg e14,ref_val (by omega) (hp e12 e13 e14) ra rb,ob_some,within8 hD.1 hn.1,bgd_t]
 rfl
end
theorem stp_in {t:Tx} (ht:pxs t) {x:Ins} {i n:Int} (hb:insB x) (hk:iok x i n) (hin:i < n) {r:R8} (hr:regs32 r) :
  (i + 1 <= (stp t x i r).1 /\ (stp t x i r).1 <= n) /\ regs32 (stp t x i r).2:=by
 have hp:=plain_of hb hk;have hN:x.1 = 12 -> 0 <= x.2.2.2.2 /\ x.2.2.2.2 <= n - i - 1:=fun e=>by
  have:=hk.2; unfold three at this; omega
 have hn:x.2.1 <= 7 /\ x.2.2.1 <= 7 /\ x.2.2.2.1 <= 7:=hk.1;obtain ⟨ho,hD,hA,hB,-⟩:=hb;unfold byte at ho hD hA hB;unfold stp;by_cases e12:x.1 = 12
 ·rw [if_pos e12];have:=hN e12;refine ⟨?_,hr⟩;simp only;split <;> omega
 rw [if_neg e12];by_cases e13:x.1 = 13
 ·rw [if_pos e13]; exact ⟨⟨by simp only; omega,by simp only; omega⟩,put4_32 hr (near_pix ht _ _)⟩
 rw [if_neg e13];by_cases e14:x.1 = 14
 ·rw [if_pos e14]; exact ⟨⟨by simp only; omega,by simp only; omega⟩,put4_32 hr (sm_pix ht _ _)⟩
 rw [if_neg e14];exact ⟨⟨by simp only; omega,by simp only; omega⟩,put_32 hr (vval_32 (hp e12 e13 e14) (reg_32 hr hA.1 hn.2.1) (reg_32 hr hB.1 hn.2.2))⟩
def lout (s:Int) (r:R8):Option (Int × Int × Int × Int × Int × Int × Int × Int × Int × Unit):=some (s,(r.1,(r.2.1,(r.2.2.1,(r.2.2.2.1,(r.2.2.2.2.1,(r.2.2.2.2.2.1,(r.2.2.2.2.2.2.1,(r.2.2.2.2.2.2.2,())))))))))
theorem vm_end {fl n:Nat} {l:List Ins} {t:Tx} {s i:Int} {r:R8} (h:l.length <= i):vmL fl (n + 1) l s i t r = lout s r:=by
 unfold vmL;rw [vm_Run_l2];simp only [bnd_eq];rw [lenK,lt_f h,bite_f];rfl
theorem ref_end {fl n:Nat} {l:List Ins} {t:Tx} {s i:Int} {r:R8} (h:l.length <= i):refL fl (n + 1) l s i t r = lout s r:=by
 unfold refL;rw [glazierref13_Run_l1];simp only [bnd_eq];rw [lenK,lt_f h,bite_f];rfl
theorem run_both {fl:Nat} (hfl:200 <= fl) {l:List Ins} (hp:progs l) (hl:prog l) {t:Tx} (ht:pxs t):∀ (k n i:Nat) (s:Int) (r:R8),l.length <= i + k -> i <= l.length -> k + 1 <= n -> 0 <= s /\ s <= i -> regs32 r ->
  ∃ s' r',vmL fl n l s i t r = lout s' r' /\ refL fl n l s i t r = lout s' r' /\ regs32 r' /\ s' - s <= l.length - i /\ s <= s' /\ (i < l.length -> s + 1 <= s')
 | 0,n,i,s,r,hk,hi,hn,hs,hr=>by
  obtain ⟨n,rfl⟩:∃ m,n = m + 1:=⟨n - 1,by omega⟩
  exact ⟨s,r,vm_end (by omega),ref_end (by omega),hr,by omega,by omega,fun h=>by omega⟩
 | k + 1,n,i,s,r,hk,hi,hn,hs,hr=>by
  obtain ⟨n,rfl⟩:∃ m,n = m + 1:=⟨n - 1,by omega⟩
  by_cases h:i < l.length
  ·have h32:=hl.2.1;have hx:=hp _ (List.getElem_mem h);have hk':=hl.2.2 i h;rw [vm_step hfl h (by omega) hx hk' ht hr (by omega),ref_step hfl h (by omega) hx hk' ht hr (by omega)]
   obtain ⟨h1,h2⟩:=stp_in ht hx hk' (by omega) hr
   generalize stp t l[i] i r = z at *
   obtain ⟨p,q⟩:=z;simp only at h1 h2 ⊢;obtain ⟨j,rfl⟩:∃ j:Nat,p = j:=⟨p.toNat,by omega⟩
   obtain ⟨s',r',e1,e2,h3,h4,h5,h6⟩:=run_both hfl hp hl ht k n j (s + 1) q (by omega) (by omega) (by omega) (by omega) h2
   exact ⟨s',r',e1,e2,h3,by omega,by omega,fun _=>by omega⟩
  ·exact ⟨s,r,vm_end (by omega),ref_end (by omega),hr,by omega,by omega,fun h'=>by omega⟩
def z8:R8:=(0,(0,(0,(0,(0,(0,(0,0)))))))
theorem vm_run {fl:Nat} (hfl:200 <= fl) {l:List Ins} (hp:progs l) (hl:prog l) (t:Tx) (ha:asks l -> tok t) (r:R8) {s:Int} {r':R8} (e:vmL fl fl l 0 0 t (W8 r) = lout s r'):vm_Run fl l t r = some (r',(s,0)):=by
 unfold vm_Run vm_Run_j1;rw [(check_spec (by omega) hp).1,ob_some,if_pos hl,bnd_eq,ne_f rfl,bite_f,(asks_spec (by omega) (by have:=hl.2.1; omega)).1,ob_some]
 have fin:(obind (vmL fl fl l 0 0 t (W8 r)) fun q14=>some ((q14.2.1,(q14.2.2.1,(q14.2.2.2.1,(q14.2.2.2.2.1,(q14.2.2.2.2.2.1,(q14.2.2.2.2.2.2.1,(q14.2.2.2.2.2.2.2.1,q14.2.2.2.2.2.2.2.2.1))))))),(q14.1,(0:Int)))) = some (r',(s,0)):=by rw [e]; rfl
 by_cases h:asks l
 ·rw [decide_eq_true h,bite_t,show ((t.1,(t.2.1,t.2.2)):Tx) = t from rfl,right_spec (by omega),ob_some,decide_eq_true (ha h),bnd_eq,not_t,bite_f,ob_some]
  simp only [osum,vwrap,ob_some];exact fin
 ·rw [decide_eq_false h,bite_f,ob_some];simp only [osum,vwrap,ob_some];exact fin
theorem ref_run {fl:Nat} (hfl:200 <= fl) {l:List Ins} (hp:progs l) (hl:prog l) (t:Tx) (ha:asks l -> tok t) {r:R8} (hr:i64 r.1 /\ i64 r.2.1 /\ i64 r.2.2.1 /\ i64 r.2.2.2.1 /\ i64 r.2.2.2.2.1 /\ i64 r.2.2.2.2.2.1 /\ i64 r.2.2.2.2.2.2.1 /\ i64 r.2.2.2.2.2.2.2) {s:Int} {r':R8} (e:refL fl fl l 0 0 t (W8 r) = lout s r'):glazierref13_Run fl l t r = some (r',(s,0)):=by
 obtain ⟨k0,k1,k2,k3,k4,k5,k6,k7⟩:=hr;unfold glazierref13_Run;rw [(check_spec (by omega) hp).2,ob_some,if_pos hl,bnd_eq,ne_f rfl,bite_f,(asks_spec (by omega) (by have:=hl.2.1; omega)).2,ob_some,ref_right,ob_some]
 have fin:(obind (refL fl fl l 0 0 t (W8 r)) fun q14=>some ((q14.2.1,(q14.2.2.1,(q14.2.2.2.1,(q14.2.2.2.2.1,(q14.2.2.2.2.2.1,(q14.2.2.2.2.2.2.1,(q14.2.2.2.2.2.2.2.1,q14.2.2.2.2.2.2.2.2.1))))))),(q14.1,(0:Int)))) = some (r',(s,0)):=by rw [e]; rfl
 by_cases h:asks l
 ·rw [decide_eq_true h,bite_t,decide_eq_true (ha h),bnd_eq,not_t,bite_f,rwrap k0,rwrap k1,rwrap k2,rwrap k3,rwrap k4,rwrap k5,rwrap k6,rwrap k7];simp only [ob_some];exact fin
 ·rw [decide_eq_false h,bite_f,rwrap k0,rwrap k1,rwrap k2,rwrap k3,rwrap k4,rwrap k5,rwrap k6,rwrap k7];simp only [ob_some];exact fin
theorem run_code {fl:Nat} (hfl:200 <= fl) {l:List Ins} (hp:progs l) (hl:¬ prog l) (t:Tx) (r:R8):vm_Run fl l t r = some (z8,(0,23)) /\ glazierref13_Run fl l t r = some (z8,(0,23)):=by
 constructor
 ·unfold vm_Run vm_Run_j1;rw [(check_spec (by omega) hp).1,ob_some,if_neg hl,bnd_eq,ne_t (by decide),bite_t]
  rfl
 ·unfold glazierref13_Run;rw [(check_spec (by omega) hp).2,ob_some,if_neg hl,bnd_eq,ne_t (by decide),bite_t]
  rfl
theorem run_tex {fl:Nat} (hfl:200 <= fl) {l:List Ins} (hp:progs l) (hl:prog l) (t:Tx) (ha:asks l) (hn:¬ tok t) (r:R8):vm_Run fl l t r = some (z8,(0,22)) /\ glazierref13_Run fl l t r = some (z8,(0,22)):=by
 constructor
 ·unfold vm_Run vm_Run_j1
  rw [(check_spec (by omega) hp).1,ob_some,if_pos hl,bnd_eq,ne_f rfl,bite_f,(asks_spec (by omega) (by have:=hl.2.1; omega)).1,ob_some,decide_eq_true ha,bite_t,
   show ((t.1,(t.2.1,t.2.2)):Tx) = t from rfl,right_spec (by omega),ob_some,decide_eq_false hn,bnd_eq,not_f,bite_t]
  rfl
 ·unfold glazierref13_Run
  rw [(check_spec (by omega) hp).2,ob_some,if_pos hl,bnd_eq,ne_f rfl,bite_f,(asks_spec (by omega) (by have:=hl.2.1; omega)).2,ob_some,ref_right,ob_some,decide_eq_true ha,bite_t,
   decide_eq_false hn,bnd_eq,not_f,bite_t]
  rfl
def in8 (r:R8):Prop:=i64 r.1 /\ i64 r.2.1 /\ i64 r.2.2.1 /\ i64 r.2.2.2.1 /\ i64 r.2.2.2.2.1 /\ i64 r.2.2.2.2.2.1 /\ i64 r.2.2.2.2.2.2.1 /\ i64 r.2.2.2.2.2.2.2
theorem run_spec {fl:Nat} (hfl:200 <= fl) {l:List Ins} (hp:progs l) {t:Tx} (ht:pxs t) {r:R8} (hr:in8 r) :
  ∃ o,vm_Run fl l t r = some o /\ glazierref13_Run fl l t r = some o /\ regs32 o.1 /\ (prog l -> (asks l -> tok t) -> o.2.2 = 0 /\ 1 <= o.2.1 /\ o.2.1 <= l.length):=by
 have z32:regs32 z8:=by unfold regs32 z8 r32; decide
 by_cases hl:prog l
 ·by_cases ha:asks l -> tok t
  ·obtain ⟨s,r',e1,e2,h1,h2,h3,h4⟩:=run_both hfl hp hl ht l.length fl 0 0 (W8 r) (by omega) (by omega) (by have:=hl.2.1; omega) (by omega) (W8_32 r)
   have:=h4 (by have:=hl.1; omega)
   exact ⟨_,vm_run hfl hp hl t ha r e1,ref_run hfl hp hl t ha hr e2,h1,fun _ _=>⟨rfl,by simp only; omega,by simp only; omega⟩⟩
  ·have h1:asks l:=Classical.byContradiction fun k=>ha fun k'=>absurd k' k
   have h2:¬ tok t:=fun k=>ha fun _=>k
   exact ⟨_,(run_tex hfl hp hl t h1 h2 r).1,(run_tex hfl hp hl t h1 h2 r).2,z32,fun _ k=>absurd k ha⟩
 ·exact ⟨_,(run_code hfl hp hl t r).1,(run_code hfl hp hl t r).2,z32,fun k=>absurd k hl⟩
end Go.Proofs.Ytkacojopcajboaa.VM
namespace Go.Proofs.Ytkacojopcajboaa.VM
open Go Go.RowKit Go.Proofs.Ytkacojopcajboaa.M Go.Proofs.Ytkacojopcajboaa.G Go.Proofs.Ytkacojopcajboaa.VM
theorem mod_spec {x m:Int} (hm:1 <= m /\ m <= 4294967296):glazierref12_mod x m = some (x % m):=by
 have h:=mod_in (x:=x) (w:=m) (by omega)
 have h1:=tmod_lt (a:=x) (m:=m) (by omega)
 unfold glazierref12_mod;rw [nz_t (by omega),bgd_t,bnd_eq,bnd_eq]
 unfold F.rem;rw [tmod_as (by omega)]
 split
 ·rw [lt_f (by omega),bite_f]
 ·rw [lt_t (by omega),bite_t,bnd_eq,addI (by omega),Int.sub_add_cancel]
theorem remB {x m:Int} (h:0 <= x):F.rem x m = x % m:=Int.tmod_eq_emod_of_nonneg h
theorem fit_one {x:Ins} {i n:Int} (hx:insB x) (hi:0 <= i) (hin:i < n) (hn:n <= 32):∃ y,glazierref12_fit x i n false = some y /\ insB y /\ iok y i n:=by
 obtain ⟨o,D,A,B,N⟩:=x;obtain ⟨ho,hD,hA,hB,hN⟩:=hx;unfold byte at ho hD hA hB;simp only at ho hD hA hB hN;unfold glazierref12_fit;simp only [bnd_eq];rw [remB ho.1,remB hD.1,remB hA.1,remB hB.1,remB (x:=D) (m:=5) hD.1,bite_f];have o1:0 <= o % 15 /\ o % 15 < 15:=by omega
 have d1:0 <= D % 8 /\ D % 8 < 8:=by omega
 have d2:0 <= D % 5 /\ D % 5 < 5:=by omega
 have a1:0 <= A % 8 /\ A % 8 < 8:=by omega
 have b1:0 <= B % 8 /\ B % 8 < 8:=by omega
 generalize o % 15 = o at *
 generalize D % 8 = d at *
 generalize D % 5 = d5 at *
 generalize A % 8 = a at *
 generalize B % 8 = b at *
 have fin:∀ d' a' b' N':Int,byte d' -> byte a' -> byte b' -> (-9223372036854775808 <= N' /\ N' <= 9223372036854775807) -> iok (o,(d',(a',(b',N')))) i n -> ∃ y,some (o,(d',(a',(b',N')))) = some y /\ insB y /\ iok y i n:=fun d' a' b' N' h1 h2 h3 h4 h5=>
  ⟨_,rfl,⟨by unfold byte; simp only; omega,h1,h2,h3,h4⟩,h5⟩
 by_cases e0:o = 0
 ·have m:=mod_in (x:=N) (w:=4294967296) (by decide)
  rw [eq_t e0,bite_t,mod_spec (by decide),ob_some,subI (by omega)]
  exact fin _ _ _ _ (by unfold byte; omega) (by unfold byte; omega) (by unfold byte; omega) (by omega) (by unfold iok three; simp only [true_and,and_true]; omega)
 rw [eq_f e0,bite_f];by_cases e1:o = 1
 ·rw [eq_t e1,bite_t];exact fin _ _ _ _ (by unfold byte; omega) (by unfold byte; omega) (by unfold byte; omega) (by omega) (by unfold iok three; simp only [true_and,and_true]; omega)
 rw [eq_f e1,bite_f];by_cases e9:o = 9
 ·have m:=mod_in (x:=N) (w:=32) (by decide)
  rw [eq_t e9,bite_t,bite_t,mod_spec (by decide),ob_some]
  exact fin _ _ _ _ (by unfold byte; omega) (by unfold byte; omega) (by unfold byte; omega) (by omega) (by unfold iok three; simp only [true_and,and_true]; omega)
 rw [eq_f e9,bite_f];by_cases e10:o = 10
 ·have m:=mod_in (x:=N) (w:=32) (by decide)
  rw [eq_t e10,bite_t,mod_spec (by decide),ob_some]
  exact fin _ _ _ _ (by unfold byte; omega) (by unfold byte; omega) (by unfold byte; omega) (by omega) (by unfold iok three; simp only [true_and,and_true]; omega)
 rw [eq_f e10,bite_f];by_cases e12:o = 12
 ·have m:=mod_in (x:=N) (w:=n - i) (by omega)
  rw [eq_t e12,bite_t,subI (a:=n) (by omega),mod_spec (by omega),ob_some]
  exact fin _ _ _ _ (by unfold byte; omega) (by unfold byte; omega) (by unfold byte; omega) (by omega) (by unfold iok three; simp only [true_and,and_true]; omega)
 rw [eq_f e12,bite_f];by_cases e13:o = 13
 ·rw [eq_t e13,bite_t,bite_t];exact fin _ _ _ _ (by unfold byte; omega) (by unfold byte; omega) (by unfold byte; omega) (by omega) (by unfold iok three; simp only [true_and,and_true]; omega)
 rw [eq_f e13,bite_f];by_cases e14:o = 14
 ·rw [eq_t e14,bite_t];exact fin _ _ _ _ (by unfold byte; omega) (by unfold byte; omega) (by unfold byte; omega) (by omega) (by unfold iok three; simp only [true_and,and_true]; omega)
 rw [eq_f e14,bite_f];exact fin _ _ _ _ (by unfold byte; omega) (by unfold byte; omega) (by unfold byte; omega) (by omega) (by unfold iok three; simp only [true_and,and_true]; omega)
/-! ### What came in -/
theorem progs_in {l:List Ins} (h:okT (Ty.list (.pair (.int .u8) (.pair (.int .u8) (.pair (.int .u8) (.pair (.int .u8) (.int .i64)))))) l):progs l:=fun x hx=>by
 have:=h.2 x hx;exact ⟨inR_u8.1 this.1,inR_u8.1 this.2.1,inR_u8.1 this.2.2.1,inR_u8.1 this.2.2.2.1,inR_i64.1 this.2.2.2.2⟩
end Go.Proofs.Ytkacojopcajboaa.VM
namespace Go.Proofs.Ytkacojopcajboaa.vmShades
open Go Go.RowKit Go.Proofs.Ytkacojopcajboaa.M Go.Proofs.Ytkacojopcajboaa.G Go.Proofs.Ytkacojopcajboaa.VM
def sat (x:Int):Int:=if x < 0 then 0 else if 255 < x then 255 else x
theorem sat_byte (x:Int):byte (sat x):=by unfold sat byte; split <;> (try split) <;> omega
theorem fsat (x:Int):fixed_Sat x = some (sat x):=by
 unfold fixed_Sat sat;simp only [bnd_eq,f_min,f_max];rw [conv8 (by unfold byte; omega)]
 congr 1
 split
 ·omega
 split <;> omega
theorem rsat (x:Int):glazierref01_Sat x = some (sat x):=by
 unfold glazierref01_Sat sat;simp only [bnd_eq];by_cases h1:x < 0
 ·rw [lt_t h1,bite_t,if_pos h1]
 rw [lt_f (by omega),bite_f,if_neg h1]
 by_cases h2:255 < x
 ·rw [gt_t h2,bite_t,if_pos h2]
 ·rw [gt_f (by omega),bite_f,if_neg h2,conv8 (by unfold byte; omega)]
theorem prodB {a b:Int} (ha:byte a) (hb:byte b):0 <= a * b /\ a * b <= 255 * b /\ a * b <= 65025:=by
 unfold byte at ha hb;have h1:=Int.mul_nonneg ha.1 hb.1;have h2:a * b <= 255 * b:=Int.mul_le_mul_of_nonneg_right ha.2 hb.1;omega
def prt (a b:Int):Int:=(a * b + 127) / 255
theorem prt_in {a b:Int} (ha:byte a) (hb:byte b):0 <= prt a b /\ prt a b <= b:=by
 have:=prodB ha hb;unfold prt;omega
theorem fpart {a b:Int} {c:Pix} (ha:byte a) (hc:byte c.2.2.2):colour_each_1__2 a b c = some (prt a c.2.2.2):=by
 have h:=prodB ha hc;have hp:=prt_in ha hc;have hcc:=hc;unfold byte at ha hcc;unfold colour_each_1__2 colour_Pre_1 fixed_Div255;simp only [bnd_eq,f_min,f_max];rw [convI (a:=a) (by omega),convI (by omega),mulI (by omega),show min (max (a * c.2.2.2) 0) 65025 = a * c.2.2.2 by omega,addI (by omega),quoI (by omega) (by decide),ob_some,ob_some,fsat,ob_some]
 show some (sat (prt a c.2.2.2)) = some (prt a c.2.2.2);unfold sat;rw [if_neg (by omega),if_neg (by omega)]
theorem rpart {a b:Int} (ha:byte a) (hb:byte b):glazierref02_part a b = some (prt a b):=by
 have h:=prodB ha hb;have hp:=prt_in ha hb;have ha':=ha; have hb':=hb;unfold byte at ha' hb';unfold glazierref02_part glazierref01_Div255;simp only [bnd_eq];rw [convI (a:=a) (by omega),convI (by omega),mulI (a:=a) (by omega),lt_f (by omega),bite_f,gt_f (by omega),bite_f,mulI (a:=2) (by omega),addI (by omega),quoI (by omega) (by decide),ob_some]
 have e:(2 * (a * b) + 255) / 510 = prt a b:=by unfold prt; omega
 rw [e,conv8 (by unfold byte; omega)]
theorem fpre {c:Pix} (hc:pix c):colour_Pre c = some (prt c.1 c.2.2.2,(prt c.2.1 c.2.2.2,(prt c.2.2.1 c.2.2.2,c.2.2.2))):=by
 unfold colour_Pre colour_each__2;rw [fpart hc.1 hc.2.2.2,ob_some,fpart hc.2.1 hc.2.2.2,ob_some,fpart hc.2.2.1 hc.2.2.2,ob_some,fpart hc.2.2.2 hc.2.2.2,ob_some,ob_some]
theorem rpre {c:Pix} (hc:pix c):glazierref02_Pre c = some (prt c.1 c.2.2.2,(prt c.2.1 c.2.2.2,(prt c.2.2.1 c.2.2.2,c.2.2.2))):=by
 unfold glazierref02_Pre;rw [rpart hc.1 hc.2.2.2,ob_some,rpart hc.2.1 hc.2.2.2,ob_some,rpart hc.2.2.1 hc.2.2.2,ob_some]
theorem right_of {c:Pix} (h1:c.1 <= c.2.2.2) (h2:c.2.1 <= c.2.2.2) (h3:c.2.2.1 <= c.2.2.2):glazierref02_Right c = some true:=by
 unfold glazierref02_Right;rw [bnd_eq,le_t h1,bite_t,bnd_eq,le_t h2,bite_t,bnd_eq,le_t h3]
theorem shade_spec {fl:Nat} (hfl:200 <= fl) {l:List Ins} (hp:progs l) {t:Tx} (ht:pxs t) {a:Pix} {x y:Int} (ha:i64 a.1 /\ i64 a.2.1 /\ i64 a.2.2.1 /\ i64 a.2.2.2) (hx:i64 x) (hy:i64 y) :
  ∃ o,vm_Shade fl l t a x y = some o /\ glazierref13_Shade fl l t a x y = some o /\ glazierref02_Right o.1 = some true /\ (prog l -> (asks l -> tok t) -> o.2.2 = 0 /\ 1 <= o.2.1 /\ o.2.1 <= l.length):=by
 obtain ⟨o,e1,e2,h1,h2⟩:=run_spec hfl hp ht (r:=(a.1,(a.2.1,(a.2.2.1,(a.2.2.2,(x,(y,(0,0)))))))) ⟨ha.1,ha.2.1,ha.2.2.1,ha.2.2.2,hx,hy,by unfold i64; simp only; omega,by unfold i64; simp only; omega⟩
 unfold vm_Shade glazierref13_Shade;rw [e1,e2,ob_some,ob_some,bnd_eq,bnd_eq];by_cases h:o.2.2 = 0
 ·have hc:pix (sat o.1.1,(sat o.1.2.1,(sat o.1.2.2.1,sat o.1.2.2.2.1))):=⟨sat_byte _,sat_byte _,sat_byte _,sat_byte _⟩;rw [ne_f h,bite_f,bite_f,fsat,ob_some,fsat,ob_some,fsat,ob_some,fsat,ob_some,fpre hc,ob_some,rsat,ob_some,rsat,ob_some,rsat,ob_some,rsat,ob_some,rpre hc,ob_some];exact ⟨_,rfl,rfl,right_of (prt_in hc.1 hc.2.2.2).2 (prt_in hc.2.1 hc.2.2.2).2 (prt_in hc.2.2.1 hc.2.2.2).2,fun k1 k2=>⟨rfl,(h2 k1 k2).2⟩⟩
 ·rw [ne_t h,bite_t,bite_t];exact ⟨_,rfl,rfl,right_of (Int.le_refl _) (Int.le_refl _) (Int.le_refl _),fun k1 k2=>absurd (h2 k1 k2).1 h⟩
end Go.Proofs.Ytkacojopcajboaa.vmShades
namespace Go.Proofs.Ytkacojopcajboaa.clipFew
open Go Go.RowKit Go.Proofs.Ytkacojopcajboaa.M Go.Proofs.Ytkacojopcajboaa.G
/-! ### How many there are -/
def ins (p:Int) (v:Vtx):Bool:=decide (0 <= dist p v)
theorem counts {p:Int}:∀ (ps:List (Vtx × Vtx)),∃ c1 c2 c11 c00:Nat,(ps.map (·.1)).countP (ins p) = c1 + c11 /\ (ps.map (·.2)).countP (ins p) = c2 + c11 /\ ps.length = c1 + c2 + c11 + c00 /\ (ps.flatMap (G.step p)).length = c1 + c11 + c1 + c2
 | []=>⟨0,0,0,0,rfl,rfl,rfl,rfl⟩
 | q :: r=>by
  obtain ⟨c1,c2,c11,c00,h1,h2,h3,h4⟩:=counts (p:=p) r;simp only [List.map_cons,List.countP_cons,List.length_cons,List.flatMap_cons,List.length_append,h1,h2,h3,h4];unfold G.step ins;by_cases a1:0 <= dist p q.1 <;> by_cases a2:0 <= dist p q.2
  ·refine ⟨c1,c2,c11 + 1,c00,?_,?_,?_,?_⟩
   ·rw [if_pos (by simpa using a1)]; omega
   ·rw [if_pos (by simpa using a2)]; omega
   ·omega
   ·rw [if_pos a1,if_neg (by omega)]; simp; omega
  ·refine ⟨c1 + 1,c2,c11,c00,?_,?_,?_,?_⟩
   ·rw [if_pos (by simpa using a1)]; omega
   ·rw [if_neg (by simpa using a2)]; omega
   ·omega
   ·rw [if_pos a1,if_pos (by omega)]; simp; omega
  ·refine ⟨c1,c2 + 1,c11,c00,?_,?_,?_,?_⟩
   ·rw [if_neg (by simpa using a1)]; omega
   ·rw [if_pos (by simpa using a2)]; omega
   ·omega
   ·rw [if_neg a1,if_pos a2]; simp; omega
  ·refine ⟨c1,c2,c11,c00 + 1,?_,?_,?_,?_⟩
   ·rw [if_neg (by simpa using a1)]; omega
   ·rw [if_neg (by simpa using a2)]; omega
   ·omega
   ·rw [if_neg a1,if_neg a2]; simp
theorem half (p:Int) (l:List Vtx):2 * (byL p l).length <= 3 * l.length:=by
 unfold byL;split
 ·obtain ⟨c1,c2,c11,c00,h1,h2,h3,h4⟩:=counts (p:=p) (prs l);rw [prs_fst] at h1;rw [prs_snd] at h2;rw [prs_length] at h3;have hr:(rot1 l).countP (ins p) = l.countP (ins p):=by
   unfold rot1;rw [List.countP_append,Nat.add_comm,<- List.countP_append,List.take_append_drop]
  unfold cutBy;omega
 ·omega
/-! ### Where they are -/
def goodC (m:Int) (j:Int) (v:Vtx):Prop:=fitC v /\ ∀ q,0 <= q -> q < j -> -m <= dist q v
theorem mid_dist {p q m:Int} {a b:Vtx} (hq:isP q) (h0:0 <= dist p a) (h1:dist p b < 0) (ha:-m <= dist q a) (hb:-m <= dist q b):-(m + 4) <= dist q (btw p a b):=by
 have hD:0 < dist p a - dist p b:=by omega
 have lin:∀ {d e x y mx M:Int},mx = mid x y d e -> M = (d - e) * mx -> M = (d - e) * mid x y d e:=fun h1 h2=>by rw [h2,h1]
 have go:∀ (x y:Int),(dist p a - dist p b) * mid x y (dist p a) (dist p b) <= (dist p a - dist p b) * x + (y - x) * dist p a /\ (dist p a - dist p b) * x + (y - x) * dist p a < (dist p a - dist p b) * mid x y (dist p a) (dist p b) + (dist p a - dist p b):=fun x y=>(mid_in (a:=x) (b:=y) h0 h1).2
 have gx:=go a.1 b.1;have gy:=go a.2.1 b.2.1;have gz:=go a.2.2.1 b.2.2.1;have gw:=go a.2.2.2.1 b.2.2.2.1
 -- the exact place is no farther out
 have ex:∀ {s t:Int},-m <= s -> -m <= t -> -(m * (dist p a - dist p b)) <= (dist p a - dist p b) * s + (t - s) * dist p a:=fun {s t} hs ht=>by
  have e:(dist p a - dist p b) * s + (t - s) * dist p a = (-dist p b) * s + dist p a * t:=by grind
  have k1:(-dist p b) * (-m) <= (-dist p b) * s:=Int.mul_le_mul_of_nonneg_left hs (by omega)
  have k2:dist p a * (-m) <= dist p a * t:=Int.mul_le_mul_of_nonneg_left ht h0;have e2:-(m * (dist p a - dist p b)) = (-dist p b) * (-m) + dist p a * (-m):=by grind
  rw [e,e2];omega
 have he:=ex ha hb;have fin:∀ {r:Int},-(m * (dist p a - dist p b)) < (dist p a - dist p b) * r + 5 * (dist p a - dist p b) -> -(m + 4) <= r:=fun {r} h=>by
  refine Int.not_lt.1 fun hc=>?_
  have:(dist p a - dist p b) * r <= (dist p a - dist p b) * (-(m + 5)):=Int.mul_le_mul_of_nonneg_left (by omega) (by omega)
  have e:(dist p a - dist p b) * (-(m + 5)) = -(m * (dist p a - dist p b)) - 5 * (dist p a - dist p b):=by grind
  omega
 rcases five hq with rfl | rfl | rfl | rfl | rfl
 ·rw [dist0] at he ⊢;refine fin ?_;show _ < (dist p a - dist p b) * (mid a.2.2.1 b.2.2.1 (dist p a) (dist p b) + mid a.2.2.2.1 b.2.2.2.1 (dist p a) (dist p b)) + _;rw [dist0] at he;have e1:(dist p a - dist p b) * (a.2.2.1 + a.2.2.2.1) + (b.2.2.1 + b.2.2.2.1 - (a.2.2.1 + a.2.2.2.1)) * dist p a = ((dist p a - dist p b) * a.2.2.1 + (b.2.2.1 - a.2.2.1) * dist p a) + ((dist p a - dist p b) * a.2.2.2.1 + (b.2.2.2.1 - a.2.2.2.1) * dist p a):=by grind
  rw [e1] at he;rw [Int.mul_add];omega
 ·rw [dist1] at he ⊢;refine fin ?_;show _ < (dist p a - dist p b) * (4 * mid a.2.2.2.1 b.2.2.2.1 (dist p a) (dist p b) + mid a.1 b.1 (dist p a) (dist p b)) + _;rw [dist1] at he;have e1:(dist p a - dist p b) * (4 * a.2.2.2.1 + a.1) + (4 * b.2.2.2.1 + b.1 - (4 * a.2.2.2.1 + a.1)) * dist p a = 4 * ((dist p a - dist p b) * a.2.2.2.1 + (b.2.2.2.1 - a.2.2.2.1) * dist p a) + ((dist p a - dist p b) * a.1 + (b.1 - a.1) * dist p a):=by grind
  rw [e1] at he;rw [Int.mul_add (dist p a - dist p b),Int.mul_left_comm (dist p a - dist p b)];omega
 ·rw [dist2] at he ⊢;refine fin ?_;show _ < (dist p a - dist p b) * (4 * mid a.2.2.2.1 b.2.2.2.1 (dist p a) (dist p b) - mid a.1 b.1 (dist p a) (dist p b)) + _;rw [dist2] at he;have e1:(dist p a - dist p b) * (4 * a.2.2.2.1 - a.1) + (4 * b.2.2.2.1 - b.1 - (4 * a.2.2.2.1 - a.1)) * dist p a = 4 * ((dist p a - dist p b) * a.2.2.2.1 + (b.2.2.2.1 - a.2.2.2.1) * dist p a) - ((dist p a - dist p b) * a.1 + (b.1 - a.1) * dist p a):=by grind
  rw [e1] at he;rw [Int.mul_sub (dist p a - dist p b),Int.mul_left_comm (dist p a - dist p b)];omega
 ·rw [dist3] at he ⊢;refine fin ?_;show _ < (dist p a - dist p b) * (4 * mid a.2.2.2.1 b.2.2.2.1 (dist p a) (dist p b) + mid a.2.1 b.2.1 (dist p a) (dist p b)) + _;rw [dist3] at he;have e1:(dist p a - dist p b) * (4 * a.2.2.2.1 + a.2.1) + (4 * b.2.2.2.1 + b.2.1 - (4 * a.2.2.2.1 + a.2.1)) * dist p a = 4 * ((dist p a - dist p b) * a.2.2.2.1 + (b.2.2.2.1 - a.2.2.2.1) * dist p a) + ((dist p a - dist p b) * a.2.1 + (b.2.1 - a.2.1) * dist p a):=by grind
  rw [e1] at he;rw [Int.mul_add (dist p a - dist p b),Int.mul_left_comm (dist p a - dist p b)];omega
 ·rw [dist4] at he ⊢;refine fin ?_;show _ < (dist p a - dist p b) * (4 * mid a.2.2.2.1 b.2.2.2.1 (dist p a) (dist p b) - mid a.2.1 b.2.1 (dist p a) (dist p b)) + _;rw [dist4] at he;have e1:(dist p a - dist p b) * (4 * a.2.2.2.1 - a.2.1) + (4 * b.2.2.2.1 - b.2.1 - (4 * a.2.2.2.1 - a.2.1)) * dist p a = 4 * ((dist p a - dist p b) * a.2.2.2.1 + (b.2.2.2.1 - a.2.2.2.1) * dist p a) - ((dist p a - dist p b) * a.2.1 + (b.2.1 - a.2.1) * dist p a):=by grind
  rw [e1] at he;rw [Int.mul_sub (dist p a - dist p b),Int.mul_left_comm (dist p a - dist p b)];omega
theorem mid_self {p:Int} {a b:Vtx} (hp:isP p) (h0:0 <= dist p a) (h1:dist p b < 0):-4 <= dist p (btw p a b):=by
 have hD:0 < dist p a - dist p b:=by omega
 have go:∀ (x y:Int),(dist p a - dist p b) * mid x y (dist p a) (dist p b) <= (dist p a - dist p b) * x + (y - x) * dist p a /\ (dist p a - dist p b) * x + (y - x) * dist p a < (dist p a - dist p b) * mid x y (dist p a) (dist p b) + (dist p a - dist p b):=fun x y=>(mid_in (a:=x) (b:=y) h0 h1).2
 have gx:=go a.1 b.1;have gy:=go a.2.1 b.2.1;have gz:=go a.2.2.1 b.2.2.1;have gw:=go a.2.2.2.1 b.2.2.2.1;have fin:∀ {r:Int},0 < (dist p a - dist p b) * r + 5 * (dist p a - dist p b) -> -4 <= r:=fun {r} h=>by
  refine Int.not_lt.1 fun hc=>?_
  have:(dist p a - dist p b) * r <= (dist p a - dist p b) * (-5):=Int.mul_le_mul_of_nonneg_left (by omega) (by omega)
  omega
 have he:(dist p a - dist p b) * dist p a + (dist p b - dist p a) * dist p a = 0:=by grind
 rcases five hp with rfl | rfl | rfl | rfl | rfl
 ·have e1:(dist 0 a - dist 0 b) * dist 0 a + (dist 0 b - dist 0 a) * dist 0 a = ((dist 0 a - dist 0 b) * a.2.2.1 + (b.2.2.1 - a.2.2.1) * dist 0 a) + ((dist 0 a - dist 0 b) * a.2.2.2.1 + (b.2.2.2.1 - a.2.2.2.1) * dist 0 a):=by rw [dist0,dist0]; grind
  rw [e1] at he;refine fin ?_;show _ < (dist 0 a - dist 0 b) * (mid a.2.2.1 b.2.2.1 (dist 0 a) (dist 0 b) + mid a.2.2.2.1 b.2.2.2.1 (dist 0 a) (dist 0 b)) + _;rw [Int.mul_add];omega
 ·have e1:(dist 1 a - dist 1 b) * dist 1 a + (dist 1 b - dist 1 a) * dist 1 a = 4 * ((dist 1 a - dist 1 b) * a.2.2.2.1 + (b.2.2.2.1 - a.2.2.2.1) * dist 1 a) + ((dist 1 a - dist 1 b) * a.1 + (b.1 - a.1) * dist 1 a):=by rw [dist1,dist1]; grind
  rw [e1] at he;refine fin ?_;show _ < (dist 1 a - dist 1 b) * (4 * mid a.2.2.2.1 b.2.2.2.1 (dist 1 a) (dist 1 b) + mid a.1 b.1 (dist 1 a) (dist 1 b)) + _;rw [Int.mul_add (_ - _),Int.mul_left_comm (_ - _)];omega
 ·have e1:(dist 2 a - dist 2 b) * dist 2 a + (dist 2 b - dist 2 a) * dist 2 a = 4 * ((dist 2 a - dist 2 b) * a.2.2.2.1 + (b.2.2.2.1 - a.2.2.2.1) * dist 2 a) - ((dist 2 a - dist 2 b) * a.1 + (b.1 - a.1) * dist 2 a):=by rw [dist2,dist2]; grind
  rw [e1] at he;refine fin ?_;show _ < (dist 2 a - dist 2 b) * (4 * mid a.2.2.2.1 b.2.2.2.1 (dist 2 a) (dist 2 b) - mid a.1 b.1 (dist 2 a) (dist 2 b)) + _;rw [Int.mul_sub (_ - _),Int.mul_left_comm (_ - _)];omega
 ·have e1:(dist 3 a - dist 3 b) * dist 3 a + (dist 3 b - dist 3 a) * dist 3 a = 4 * ((dist 3 a - dist 3 b) * a.2.2.2.1 + (b.2.2.2.1 - a.2.2.2.1) * dist 3 a) + ((dist 3 a - dist 3 b) * a.2.1 + (b.2.1 - a.2.1) * dist 3 a):=by rw [dist3,dist3]; grind
  rw [e1] at he;refine fin ?_;show _ < (dist 3 a - dist 3 b) * (4 * mid a.2.2.2.1 b.2.2.2.1 (dist 3 a) (dist 3 b) + mid a.2.1 b.2.1 (dist 3 a) (dist 3 b)) + _;rw [Int.mul_add (_ - _),Int.mul_left_comm (_ - _)];omega
 ·have e1:(dist 4 a - dist 4 b) * dist 4 a + (dist 4 b - dist 4 a) * dist 4 a = 4 * ((dist 4 a - dist 4 b) * a.2.2.2.1 + (b.2.2.2.1 - a.2.2.2.1) * dist 4 a) - ((dist 4 a - dist 4 b) * a.2.1 + (b.2.1 - a.2.1) * dist 4 a):=by rw [dist4,dist4]; grind
  rw [e1] at he;refine fin ?_;show _ < (dist 4 a - dist 4 b) * (4 * mid a.2.2.2.1 b.2.2.2.1 (dist 4 a) (dist 4 b) - mid a.2.1 b.2.1 (dist 4 a) (dist 4 b)) + _;rw [Int.mul_sub (_ - _),Int.mul_left_comm (_ - _)];omega
theorem btw_fit {p:Int} {a b:Vtx} (ha:fitC a) (hb:fitC b) (h0:0 <= dist p a) (h1:dist p b < 0):fitC (btw p a b):=by
 have go:∀ {x y lo hi:Int},lo <= x -> x <= hi -> lo <= y -> y <= hi -> lo <= mid x y (dist p a) (dist p b) /\ mid x y (dist p a) (dist p b) <= hi:=fun {x y lo hi} h1' h2' h3' h4'=>by
  have:=(mid_in (a:=x) (b:=y) h0 h1).1;omega
 obtain ⟨⟨a1,a1'⟩,⟨a2,a2'⟩,⟨a3,a3'⟩,⟨a4,a4'⟩,⟨a5,a5'⟩,⟨a6,a6'⟩,⟨a7,a7'⟩,a8,a8'⟩:=ha;obtain ⟨⟨b1,b1'⟩,⟨b2,b2'⟩,⟨b3,b3'⟩,⟨b4,b4'⟩,⟨b5,b5'⟩,⟨b6,b6'⟩,⟨b7,b7'⟩,b8,b8'⟩:=hb;exact ⟨go a1 a1' b1 b1',go a2 a2' b2 b2',go a3 a3' b3 b3',go a4 a4' b4 b4',go a5 a5' b5 b5',go a6 a6' b6 b6',go a7 a7' b7 b7',go a8 a8' b8 b8'⟩
theorem cut_good {m p:Int} {l:List Vtx} (hm:0 <= m) (hp:isP p) (h:∀ v ∈ l,goodC m p v):∀ v ∈ byL p l,goodC (m + 4) (p + 1) v:=by
 unfold byL;rw [if_pos hp];refine cut_mem fun q h1 h2 v hv=>?_
 have b1:=h _ h1;have b2:=h _ h2;have cr:∀ {a b:Vtx},goodC m p a -> goodC m p b -> 0 <= dist p a -> dist p b < 0 -> goodC (m + 4) (p + 1) (btw p a b):=fun {a b} ga gb d0 d1=>by
  refine ⟨btw_fit ga.1 gb.1 d0 d1,fun r r0 r1=>?_⟩
  have hr:isP r:=⟨r0,by have:=hp.2; omega⟩
  by_cases hrp:r = p
  ·subst hrp;have:=mid_self hp d0 d1;omega
  ·exact mid_dist hr d0 d1 (ga.2 r r0 (by omega)) (gb.2 r r0 (by omega))
 unfold G.step at hv;split at hv
 ·rename_i c1;rcases List.mem_cons.1 hv with rfl | hv
  ·refine ⟨b1.1,fun r r0 r1=>?_⟩
   by_cases hrp:r = p
   ·subst hrp; omega
   ·have:=b1.2 r r0 (by omega)
    omega
  ·split at hv
   ·rename_i c2;simp at hv; subst hv;exact cr b1 b2 c1 c2
   ·cases hv
 ·rename_i c1;split at hv
  ·rename_i c2;simp at hv; subst hv;exact cr b2 b1 c2 (by omega)
  ·cases hv
end Go.Proofs.Ytkacojopcajboaa.clipFew
