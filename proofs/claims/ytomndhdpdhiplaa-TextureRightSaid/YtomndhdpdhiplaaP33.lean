/- Each part of the law, put together. -/
import Derived.Test.YtomndhdpdhiplaaMchZ
import Derived.Test.YtomndhdpdhiplaaGen
set_option linter.unusedVariables false
namespace Go.Proofs.Ytomndhdpdhiplaa.G
open Go Go.RowKit Go.Proofs.Ytomndhdpdhiplaa.M
theorem wrapI {n:Int} (h1:-9223372036854775808 <= n) (h2:n <= 9223372036854775807):IntKind.wrap .i64 n = n:=by
 simp only [IntKind.wrap,IntKind.bits,IntKind.signed];simp;split <;> omega
theorem wrapU {n:Int} (h1:0 <= n) (h2:n <= 18446744073709551615):IntKind.wrap .u64 n = n:=by
 simp only [IntKind.wrap,IntKind.bits,IntKind.signed];simp;omega
theorem inR_u8 {x:Int}:inR .u8 x ↔ 0 <= x /\ x <= 255:=by
 unfold inR;simp [Lit.wf,IntKind.min,IntKind.max,IntKind.signed,IntKind.bits]
theorem tmod_lt {a m:Int} (hm:0 < m):-m < Int.tmod a m /\ Int.tmod a m < m:=by
 have h1:=Int.tmod_lt_of_pos a hm;have h2:=Int.lt_tmod_of_pos a hm;exact ⟨h2,h1⟩
/-! ### The words, of numbers that fit -/
theorem bnd_eq {α β:Type} (e:α) (f:α -> Option β):bnd e f = f e:=rfl
theorem ob_some {α β:Type} (e:α) (f:α -> Option β):obind (some e) f = f e:=rfl
theorem bite_t {β:Type} (x y:Option β):bite true x y = x:=rfl
theorem bite_f {β:Type} (x y:Option β):bite false x y = y:=rfl
theorem bgd_t {β:Type} (x:Option β):bgd true x = x:=rfl
theorem addI {a b:Int} (h:-9223372036854775808 <= a + b /\ a + b <= 9223372036854775807):F.add .i64 a b = a + b:=wrapI h.1 h.2
theorem subI {a b:Int} (h:-9223372036854775808 <= a - b /\ a - b <= 9223372036854775807):F.sub .i64 a b = a - b:=wrapI h.1 h.2
theorem mulI {a b:Int} (h:-9223372036854775808 <= a * b /\ a * b <= 9223372036854775807):F.mul .i64 a b = a * b:=wrapI h.1 h.2
theorem negI {a:Int} (h:-9223372036854775807 <= a /\ a <= 9223372036854775807):F.neg .i64 a = -a:=by
 rw [F.neg,wrapI (by omega) (by omega)]; omega
theorem convI {a:Int} (h:-9223372036854775808 <= a /\ a <= 9223372036854775807):F.conv .i64 a = a:=wrapI h.1 h.2
theorem addU {a b:Int} (h:0 <= a + b /\ a + b <= 18446744073709551615):F.add .u64 a b = a + b:=wrapU h.1 h.2
theorem mulU {a b:Int} (h:0 <= a * b /\ a * b <= 18446744073709551615):F.mul .u64 a b = a * b:=wrapU h.1 h.2
theorem convU {a:Int} (h:0 <= a /\ a <= 18446744073709551615):F.conv .u64 a = a:=wrapU h.1 h.2
theorem shrU32 {a:Int}:F.shr .u64 a 32 = a / 4294967296:=by
 rw [show (4294967296:Int) = 2 ^ 32 from rfl,<- Int.fdiv_eq_ediv_of_nonneg _ (by decide)]; rfl
theorem f_eq {a b:Int}:F.eq a b = decide (a = b):=rfl
theorem f_min {a b:Int}:F.min a b = min a b:=by unfold F.min; split <;> omega
theorem f_max {a b:Int}:F.max a b = max a b:=by unfold F.max; split <;> omega
theorem eq_t {a b:Int} (h:a = b):F.eq a b = true:=decide_eq_true h
theorem eq_f {a b:Int} (h:a ≠ b):F.eq a b = false:=decide_eq_false h
theorem lt_t {a b:Int} (h:a < b):F.lt a b = true:=decide_eq_true h
theorem lt_f {a b:Int} (h:b <= a):F.lt a b = false:=decide_eq_false (by omega)
theorem le_t {a b:Int} (h:a <= b):F.le a b = true:=decide_eq_true h
theorem le_f {a b:Int} (h:b < a):F.le a b = false:=decide_eq_false (by omega)
theorem gt_t {a b:Int} (h:b < a):F.gt a b = true:=decide_eq_true h
theorem gt_f {a b:Int} (h:a <= b):F.gt a b = false:=decide_eq_false (by omega)
theorem ge_t {a b:Int} (h:b <= a):F.ge a b = true:=decide_eq_true h
theorem ge_f {a b:Int} (h:a < b):F.ge a b = false:=decide_eq_false (by omega)
theorem nz_t {a:Int} (h:a ≠ 0):F.nonzero a = true:=decide_eq_true h
theorem not_t:F.not true = false:=rfl
theorem not_f:F.not false = true:=rfl
theorem fdiv_at {p c q:Int} (hc:0 < c) (h1:c * q <= p) (h2:p < c * q + c):Int.fdiv p c = q:=by
 rw [Int.fdiv_eq_ediv_of_nonneg _ (by omega)]
 have h3:p / c * c <= p:=Int.ediv_mul_le p (by omega)
 have h4:p < (p / c + 1) * c:=Int.lt_ediv_add_one_mul_self p hc;rw [Int.mul_comm] at h3 h4;have a:c * (p / c) < c * (q + 1):=by rw [Int.mul_add]; omega
 have b:c * q < c * (p / c + 1):=by omega
 have a:=Int.lt_of_mul_lt_mul_left a (by omega)
 have b:=Int.lt_of_mul_lt_mul_left b (by omega)
 omega
end Go.Proofs.Ytomndhdpdhiplaa.G
namespace Go.Proofs.Ytomndhdpdhiplaa.G
open Go Go.RowKit Go.Proofs.Ytomndhdpdhiplaa.M
theorem lgetK {α:Type} {l:List α} {k:Nat} (h:k < l.length):F.get l (k:Int) = some l[k]:=by
 unfold F.get;rw [if_pos (Int.natCast_nonneg k),Int.toNat_natCast,List.getElem?_eq_getElem h]
theorem lenK {α:Type} (l:List α):F.len l = (l.length:Int):=rfl
theorem appOk_t {α β:Type} {n:Nat} {l:List α} {m:List β} (h:l.length + m.length <= 100000) (hn:n <= 100000):F.appOk n l m = true:=by
 unfold F.appOk;have h2:(l.length + m.length) * n <= 100000 * 100000:=Nat.mul_le_mul h hn;rw [decide_eq_true (by simp only [maxLen]; omega),decide_eq_true (by omega)]
 rfl
theorem appK {α:Type} (l m:List α):F.app l m = l ++ m:=rfl
theorem fillOk_t {b:Nat} {n:Int} (h0:0 <= n) (h:n <= 100000) (hb:b <= 100000):F.fillOk b n = true:=by
 unfold F.fillOk;have h2:(b:Int) * n <= 100000 * 100000:=Int.mul_le_mul (by omega) h h0 (by decide)
 rw [decide_eq_true h0,decide_eq_true (by simp only [maxLen]; omega),decide_eq_true (by omega)]
 rfl
end Go.Proofs.Ytomndhdpdhiplaa.G
namespace Go.Proofs.Ytomndhdpdhiplaa.G
open Go Go.RowKit Go.Proofs.Ytomndhdpdhiplaa.M
theorem mask32 {x:Int} (h0:0 <= x) (h1:x <= 18446744073709551615):F.and .u64 x 4294967295 = x % 4294967296:=by
 obtain ⟨n,rfl⟩:=Int.eq_ofNat_of_zero_le h0;have e:BitVec.ofInt 64 4294967295 = BitVec.ofNat 64 (2 ^ 32 - 1):=by decide
 have k:((BitVec.toNat (BitVec.ofInt 64 (n:Int) &&& BitVec.ofInt 64 4294967295):Nat):Int) = (n:Int) % 4294967296:=by
  rw [e,BitVec.ofInt_natCast,BitVec.toNat_and,BitVec.toNat_ofNat,BitVec.toNat_ofNat,Nat.mod_eq_of_lt (show n < 2 ^ 64 by omega),Nat.mod_eq_of_lt (show 2 ^ 32 - 1 < 2 ^ 64 by decide),Nat.and_two_pow_sub_one_eq_mod]
  rfl
 show IntKind.wrap .u64 _ = _;rw [show ((BitVec.toNat (BitVec.ofInt (IntKind.bits .u64) (n:Int) &&& BitVec.ofInt (IntKind.bits .u64) 4294967295):Nat):Int) = (n:Int) % 4294967296 from k,wrapU (by omega) (by omega)]
theorem mul64_spec {a b:Int} (ha:0 <= a /\ a <= 18446744073709551615) (hb:0 <= b /\ b <= 18446744073709551615) (hp:a * b <= 9223372036854775807):bits_Mul64 a b = some (0,a * b):=by
 obtain ⟨A,hA⟩:∃ A,A = a / 4294967296:=⟨_,rfl⟩
 obtain ⟨B,hB⟩:∃ B,B = b / 4294967296:=⟨_,rfl⟩
 obtain ⟨x,hx⟩:∃ x,x = a % 4294967296:=⟨_,rfl⟩
 obtain ⟨y,hy⟩:∃ y,y = b % 4294967296:=⟨_,rfl⟩
 have ea:a = 4294967296 * A + x:=by omega
 have eb:b = 4294967296 * B + y:=by omega
 have e:a * b = 18446744073709551616 * (A * B) + 4294967296 * (A * y) + 4294967296 * (x * B) + x * y:=by
  rw [ea,eb];simp only [Int.mul_add,Int.add_mul,Int.mul_assoc,Int.mul_left_comm x,Int.mul_left_comm A];omega
 have p1:0 <= A * B:=Int.mul_nonneg (by omega) (by omega)
 have p2:0 <= A * y:=Int.mul_nonneg (by omega) (by omega)
 have p3:0 <= x * B:=Int.mul_nonneg (by omega) (by omega)
 have p4:0 <= x * y:=Int.mul_nonneg (by omega) (by omega)
 obtain ⟨p,hP⟩:∃ p,p = a * b:=⟨_,rfl⟩
 obtain ⟨P,h1⟩:∃ P,P = A * B:=⟨_,rfl⟩
 obtain ⟨Q,h2⟩:∃ P,P = A * y:=⟨_,rfl⟩
 obtain ⟨R,h3⟩:∃ P,P = x * B:=⟨_,rfl⟩
 obtain ⟨S,h4⟩:∃ P,P = x * y:=⟨_,rfl⟩
 rw [<- hP] at hp;rw [<- h1] at p1;rw [<- h2] at p2;rw [<- h3] at p3;rw [<- h4] at p4;rw [<- hP,<- h1,<- h2,<- h3,<- h4] at e;unfold bits_Mul64;simp only [bnd_eq,shrU32];rw [mask32 ha.1 ha.2,mask32 hb.1 hb.2,<- hx,<- hy,<- hA,<- hB];have m1:F.mul .u64 x y = S:=by rw [mulU (by omega),h4]
 have m2:F.mul .u64 A y = Q:=by rw [mulU (by omega),h2]
 have m3:F.mul .u64 x B = R:=by rw [mulU (by omega),h3]
 have m4:F.mul .u64 A B = P:=by rw [mulU (by omega),h1]
 have m5:F.mul .u64 a b = p:=by rw [mulU (by omega),hP]
 rw [m1,m2,m3,m4,m5,addU (a:=Q) (by omega),mask32 (x:=Q + S / 4294967296) (by omega) (by omega),addU (b:=R) (by omega),addU (a:=P) (by omega),addU (by omega),hP]
 have:P + (Q + S / 4294967296) / 4294967296 + ((Q + S / 4294967296) % 4294967296 + R) / 4294967296 = 0:=by omega
 rw [this]
theorem size_spec {a:Int} (h:-9223372036854775807 <= a /\ a <= 9223372036854775807):fixed_size a = some (a.natAbs:Int):=by
 unfold fixed_size;simp only [bnd_eq];rw [negI h,f_max,show max a (-a) = (a.natAbs:Int) by omega,convU (by omega)]
theorem fdiv_pos {p c q r:Int} (hc:0 < c) (h:p = c * q + r) (h0:0 <= r) (h1:r < c):Int.fdiv p c = q:=fdiv_at hc (by omega) (by omega)
theorem signed0 {n:Int} (h0:0 <= n) (h1:n <= 9223372036854775807):fixed_signed n false = some (n,0):=by
 unfold fixed_signed fixed_checked;simp only [bnd_eq,bite_f];rw [convI (by omega),le_t h1]
 rfl
theorem signed1 {n:Int} (h0:0 <= n) (h1:n <= 9223372036854775807):fixed_signed n true = some (-n,0):=by
 unfold fixed_signed fixed_checked;have hw:F.conv .i64 (F.neg .u64 n) = -n:=by
  simp only [F.conv,F.neg,IntKind.wrap,IntKind.bits,IntKind.signed]
  simp;split <;> omega
 simp only [bnd_eq,bite_t];rw [hw,le_t (by omega)]
 rfl
theorem div64_spec (fl:Nat) {p c:Int} (hp:0 <= p) (hp1:p <= 9223372036854775807) (hc:0 < c):bits_Div64 fl 0 p c = some (Int.tdiv p c,Int.tmod p c):=by
 have hq0:0 <= Int.tdiv p c:=Int.tdiv_nonneg hp (by omega)
 have hqp:Int.tdiv p c <= p:=Int.tdiv_le_self _ hp;unfold bits_Div64;simp only [bnd_eq];rw [eq_f (by omega),le_f hc,eq_t rfl,nz_t (by omega)]
 simp only [bite_f,bite_t,bgd_t];show some (IntKind.wrap .u64 (Int.tdiv p c),_) = _;rw [wrapU hq0 (by omega)]
 rfl
theorem mulDiv_spec (fl:Nat) {a b c:Int} (ha:-9223372036854775807 <= a /\ a <= 9223372036854775807) (hb:-9223372036854775807 <= b /\ b <= 9223372036854775807) (hp:-9223372036854775806 <= a * b /\ a * b <= 9223372036854775806) (hc:c ≠ 0) (hc1:-9223372036854775807 <= c /\ c <= 9223372036854775807) :
  fixed_MulDiv fl a b c = some (Int.fdiv (a * b) c,0):=by
 have hAB:((a.natAbs:Int)) * (b.natAbs:Int) = ((a * b).natAbs:Int):=by rw [Int.natAbs_mul]; rfl
 unfold fixed_MulDiv;simp only [bnd_eq];rw [eq_f hc,size_spec ha,size_spec hb,size_spec hc1];simp only [ob_some,bite_f];rw [mul64_spec (by omega) (by omega) (by rw [hAB]; omega),hAB]
 simp only [ob_some];obtain ⟨C,hC⟩:∃ C:Int,C = c.natAbs:=⟨_,rfl⟩
 obtain ⟨p,hP⟩:∃ p:Int,p = (a * b).natAbs:=⟨_,rfl⟩
 rw [<- hC,<- hP];have hC0:0 < C:=by omega
 rw [ge_f (by omega),div64_spec fl (by omega) (by omega) hC0]
 simp only [ob_some,bite_f];obtain ⟨q,hq⟩:∃ q,q = Int.tdiv p C:=⟨_,rfl⟩
 obtain ⟨r,hr⟩:∃ r,r = Int.tmod p C:=⟨_,rfl⟩
 have hp0:0 <= p:=by omega
 have hr0:0 <= r:=by rw [hr]; exact Int.tmod_nonneg _ hp0
 have hr1:r < C:=by rw [hr]; exact Int.tmod_lt_of_pos _ hC0
 have hpq:p = C * q + r:=by rw [hq,hr]; exact (Int.mul_tdiv_add_tmod p C).symm
 have hq0:0 <= q:=by rw [hq]; exact Int.tdiv_nonneg hp0 (by omega)
 have hqp:q <= p:=by rw [hq]; exact Int.tdiv_le_self _ hp0
 rw [<- hq,<- hr];have posC:(a * b = p /\ c = C) \/ (a * b = -p /\ c = -C) -> Int.fdiv (a * b) c = q:=fun h=>by
  rcases h with ⟨h1,h2⟩ | ⟨h1,h2⟩
  ·rw [h1,h2]; exact fdiv_pos hC0 hpq hr0 hr1
  ·rw [h1,h2,Int.neg_fdiv_neg]; exact fdiv_pos hC0 hpq hr0 hr1
 have neg0:r = 0 -> (a * b = -p /\ c = C) \/ (a * b = p /\ c = -C) -> Int.fdiv (a * b) c = -q:=fun hr0 h=>by
  have e:-p = C * (-q) + 0:=by rw [Int.mul_neg]; omega
  rcases h with ⟨h1,h2⟩ | ⟨h1,h2⟩
  ·rw [h1,h2]; exact fdiv_pos hC0 e (by omega) (by omega)
  ·rw [h1,h2,<- Int.neg_fdiv_neg,Int.neg_neg]; exact fdiv_pos hC0 e (by omega) (by omega)
 have neg1:0 < r -> (a * b = -p /\ c = C) \/ (a * b = p /\ c = -C) -> Int.fdiv (a * b) c = -(q + 1):=fun hr0 h=>by
  have e:-p = C * (-(q + 1)) + (C - r):=by rw [Int.mul_neg,Int.mul_add]; omega
  rcases h with ⟨h1,h2⟩ | ⟨h1,h2⟩
  ·rw [h1,h2]; exact fdiv_pos hC0 e (by omega) (by omega)
  ·rw [h1,h2,<- Int.neg_fdiv_neg,Int.neg_neg]; exact fdiv_pos hC0 e (by omega) (by omega)
 have fin:∀ sg:Bool,F.bne (F.bne (F.lt a 0) (F.lt b 0)) (F.lt c 0) = sg -> (sg = false -> (a * b = p /\ c = C) \/ (a * b = -p /\ c = -C)) -> (sg = true -> (a * b = -p /\ c = C) \/ (a * b = p /\ c = -C)) ->
   bite (F.bne (F.bne (F.lt a 0) (F.lt b 0)) (F.lt c 0))
    (bite (F.gt r 0) (bite (F.eq (F.add .u64 q 1) 0) (some (0,2)) (obind (fixed_signed (F.add .u64 q 1) (F.bne (F.bne (F.lt a 0) (F.lt b 0)) (F.lt c 0))) fun q=>some q))
     (obind (fixed_signed q (F.bne (F.bne (F.lt a 0) (F.lt b 0)) (F.lt c 0))) fun q=>some q))
    (obind (fixed_signed q (F.bne (F.bne (F.lt a 0) (F.lt b 0)) (F.lt c 0))) fun q=>some q) = some (Int.fdiv (a * b) c,(0:Int)):=fun sg hs h0 h1=>by
  rw [hs];cases sg with
  | false=>
   rw [bite_f,signed0 hq0 (by omega),posC (h0 rfl)]
   rfl
  | true=>
   rw [bite_t];by_cases hr2:r > 0
   ·rw [gt_t hr2,addU (by omega),eq_f (by omega),signed1 (by omega) (by omega),neg1 hr2 (h1 rfl)]
    rfl
   ·rw [gt_f (by omega),signed1 hq0 (by omega),neg0 (by omega) (h1 rfl)]
    rfl
 clear posC neg0 neg1 hpq hr hq;have hm1:0 <= a * b -> a * b = p:=by omega
 have hm2:a * b <= 0 -> a * b = -p:=by omega
 have hc1':0 <= c -> c = C:=by omega
 have hc2':c < 0 -> c = -C:=by omega
 have sab:(a < 0 /\ b < 0 -> 0 <= a * b) /\ (a < 0 /\ 0 <= b -> a * b <= 0) /\ (0 <= a /\ b < 0 -> a * b <= 0) /\ (0 <= a /\ 0 <= b -> 0 <= a * b):=by
  refine ⟨fun h=>Int.mul_nonneg_of_nonpos_of_nonpos (by omega) (by omega),fun h=>Int.mul_nonpos_of_nonpos_of_nonneg (by omega) h.2,fun h=>Int.mul_nonpos_of_nonneg_of_nonpos h.1 (by omega),fun h=>Int.mul_nonneg h.1 h.2⟩
 obtain ⟨s1,s2,s3,s4⟩:=sab;rcases Int.lt_or_le a 0 with k1 | k1 <;> rcases Int.lt_or_le b 0 with k2 | k2 <;> rcases Int.lt_or_le c 0 with k3 | k3
 ·exact fin true (by rw [lt_t k1,lt_t k2,lt_t k3]; rfl) (by simp) (fun _=>.inr ⟨hm1 (s1 ⟨k1,k2⟩),hc2' k3⟩)
 ·exact fin false (by rw [lt_t k1,lt_t k2,lt_f k3]; rfl) (fun _=>.inl ⟨hm1 (s1 ⟨k1,k2⟩),hc1' k3⟩) (by simp)
 ·exact fin false (by rw [lt_t k1,lt_f k2,lt_t k3]; rfl) (fun _=>.inr ⟨hm2 (s2 ⟨k1,k2⟩),hc2' k3⟩) (by simp)
 ·exact fin true (by rw [lt_t k1,lt_f k2,lt_f k3]; rfl) (by simp) (fun _=>.inl ⟨hm2 (s2 ⟨k1,k2⟩),hc1' k3⟩)
 ·exact fin false (by rw [lt_f k1,lt_t k2,lt_t k3]; rfl) (fun _=>.inr ⟨hm2 (s3 ⟨k1,k2⟩),hc2' k3⟩) (by simp)
 ·exact fin true (by rw [lt_f k1,lt_t k2,lt_f k3]; rfl) (by simp) (fun _=>.inl ⟨hm2 (s3 ⟨k1,k2⟩),hc1' k3⟩)
 ·exact fin true (by rw [lt_f k1,lt_f k2,lt_t k3]; rfl) (by simp) (fun _=>.inr ⟨hm1 (s4 ⟨k1,k2⟩),hc2' k3⟩)
 ·exact fin false (by rw [lt_f k1,lt_f k2,lt_f k3]; rfl) (fun _=>.inl ⟨hm1 (s4 ⟨k1,k2⟩),hc1' k3⟩) (by simp)
end Go.Proofs.Ytomndhdpdhiplaa.G
namespace Go.Proofs.Ytomndhdpdhiplaa.G
open Go Go.RowKit Go.Proofs.Ytomndhdpdhiplaa.M
end Go.Proofs.Ytomndhdpdhiplaa.G
namespace Go.Proofs.Ytomndhdpdhiplaa.VM
open Go Go.RowKit Go.Proofs.Ytomndhdpdhiplaa.M Go.Proofs.Ytomndhdpdhiplaa.G Go.Proofs.Ytomndhdpdhiplaa.VM
abbrev Pix:=Int × Int × Int × Int
abbrev Tx:=Int × Int × List (Int × Int × Int × Int)
def pz:Pix:=(0,(0,(0,0)))
def byte (x:Int):Prop:=0 <= x /\ x <= 255
def pix (c:Pix):Prop:=byte c.1 /\ byte c.2.1 /\ byte c.2.2.1 /\ byte c.2.2.2
def pxs (t:Tx):Prop:=∀ c ∈ t.2.2,pix c
def tok (t:Tx):Prop:=(1 <= t.1 /\ t.1 <= 16) /\ (1 <= t.2.1 /\ t.2.1 <= 16) /\ (t.2.2.length:Int) = t.1 * t.2.1
instance (t:Tx):Decidable (tok t):=by unfold tok; infer_instance
def tat (t:Tx) (x y:Int):Pix:=if tok t then t.2.2.getD (y % t.2.1 * t.1 + x % t.1).toNat pz else pz
theorem pix_pz:pix pz:=by unfold pix byte pz; decide
theorem tat_pix {t:Tx} (h:pxs t) (x y:Int):pix (tat t x y):=by
 unfold tat;split
 ·rw [List.getD_eq_getElem?_getD];cases he:t.2.2[(y % t.2.1 * t.1 + x % t.1).toNat]? with
  | none=>exact pix_pz
  | some c=>exact h c (List.mem_of_getElem? he)
 ·exact pix_pz
theorem tmod_as {x w:Int} (hw:0 < w):Int.tmod x w = if 0 <= x \/ x % w = 0 then x % w else x % w - w:=by
 rw [Int.tmod_eq_emod];have e:(w.natAbs:Int) = w:=by omega
 have d:(w ∣ x) ↔ x % w = 0:=⟨Int.emod_eq_zero_of_dvd,Int.dvd_of_emod_eq_zero⟩;by_cases h0:0 <= x
 ·rw [if_pos (.inl h0),if_pos (.inl h0)]; simp
 ·by_cases h1:x % w = 0
  ·rw [if_pos (.inr (d.2 h1)),if_pos (.inr h1)]; simp
  ·rw [if_neg (by rw [d]; omega),if_neg (by omega),e]
theorem mod_in {x w:Int} (hw:0 < w):0 <= x % w /\ x % w < w:=⟨Int.emod_nonneg x (by omega),Int.emod_lt_of_pos x hw⟩
theorem wrap_two {x w:Int} (hw:1 <= w /\ w <= 16):F.rem (F.add .i64 (F.rem x w) w) w = x % w:=by
 have h:=mod_in (x:=x) (w:=w) (by omega)
 have h1:=tmod_lt (a:=x) (m:=w) (by omega)
 unfold F.rem;rw [addI (by omega),Int.tmod_eq_emod_of_nonneg (by omega),tmod_as (by omega)]
 split
 ·rw [Int.add_emod_right,Int.emod_emod]
 ·rw [Int.sub_add_cancel,Int.emod_emod]
theorem ref_wrap {x w:Int} (hw:1 <= w /\ w <= 16):glazierref11_wrap x w = some (x % w):=by
 have h:=mod_in (x:=x) (w:=w) (by omega)
 have h1:=tmod_lt (a:=x) (m:=w) (by omega)
 unfold glazierref11_wrap;rw [nz_t (by omega),bgd_t,bnd_eq,bnd_eq]
 unfold F.rem;rw [tmod_as (by omega)]
 split
 ·rw [lt_f (by omega),bite_f]
 ·rw [lt_t (by omega),bite_t,bnd_eq,addI (by omega),Int.sub_add_cancel]
theorem sides_spec {fl:Nat} (hfl:3 <= fl) (a b:Int):texture_sides fl [a,b] = some (decide ((1 <= a /\ a <= 16) /\ (1 <= b /\ b <= 16))):=by
 obtain ⟨n,rfl⟩:∃ n,fl = n + 3:=⟨fl - 3,by omega⟩
 unfold texture_sides;have l0:F.len [a,b] = 2:=rfl;have g0:F.get [a,b] 0 = some a:=rfl;have g1:F.get [a,b] 1 = some b:=rfl;rw [bnd_eq,l0];rw [texture_sides_l1,bnd_eq,lt_t (by decide),bite_t,g0,ob_some,bnd_eq]
 by_cases h1:a < 1
 ·rw [lt_t h1,bite_t,ob_some,decide_eq_false (by omega)]; rfl
 rw [lt_f (by omega),bite_f,bnd_eq]
 by_cases h2:16 < a
 ·rw [gt_t h2,bite_t,ob_some,decide_eq_false (by omega)]; rfl
 rw [gt_f (by omega),bite_f,bnd_eq,show F.add .i64 0 1 = 1 from rfl]
 rw [texture_sides_l1,bnd_eq,lt_t (by decide),bite_t,g1,ob_some,bnd_eq]
 by_cases h3:b < 1
 ·rw [lt_t h3,bite_t,ob_some,decide_eq_false (by omega)]; rfl
 rw [lt_f (by omega),bite_f,bnd_eq]
 by_cases h4:16 < b
 ·rw [gt_t h4,bite_t,ob_some,decide_eq_false (by omega)]; rfl
 rw [gt_f (by omega),bite_f,bnd_eq,show F.add .i64 1 1 = 2 from rfl]
 rw [texture_sides_l1,bnd_eq,lt_f (by decide),bite_f,ob_some,decide_eq_true (by omega)]; rfl
theorem area_in {a b:Int} (ha:1 <= a /\ a <= 16) (hb:1 <= b /\ b <= 16):1 <= a * b /\ a * b <= 256:=by
 have h1:a * b <= 16 * 16:=Int.mul_le_mul ha.2 hb.2 (by omega) (by decide)
 have h2:1 * 1 <= a * b:=Int.mul_le_mul ha.1 hb.1 (by decide) (by omega)
 omega
theorem right_spec {fl:Nat} (hfl:3 <= fl) (t:Tx):texture_Right fl t = some (decide (tok t)):=by
 unfold texture_Right;rw [sides_spec hfl,ob_some];by_cases h:(1 <= t.1 /\ t.1 <= 16) /\ (1 <= t.2.1 /\ t.2.1 <= 16)
 ·have:=area_in h.1 h.2;rw [decide_eq_true h,bite_t,bnd_eq,bnd_eq,mulI (by omega),bnd_eq,lenK,f_eq]
  congr 1
  rw [decide_eq_decide];exact ⟨fun e=>⟨h.1,h.2,e⟩,fun e=>e.2.2⟩
 ·rw [decide_eq_false h,bite_f,decide_eq_false (fun k=>h ⟨k.1,k.2.1⟩)]
theorem place {w h a b:Int} (hb:0 <= b /\ b < h) (ha:0 <= a /\ a < w):0 <= b * w + a /\ b * w + a < w * h:=by
 have h1:0 <= b * w:=Int.mul_nonneg hb.1 (by omega)
 have h2:(b + 1) * w <= h * w:=Int.mul_le_mul_of_nonneg_right (by omega) (by omega)
 rw [Int.add_mul,Int.mul_comm h w] at h2;omega
theorem tat_get {t:Tx} (ht:tok t) (x y:Int):F.get t.2.2 (y % t.2.1 * t.1 + x % t.1) = some (tat t x y):=by
 obtain ⟨h1,h2,h3⟩:=ht;have p:=place (mod_in (x:=y) (w:=t.2.1) (by omega)) (mod_in (x:=x) (w:=t.1) (by omega))
 unfold tat;rw [if_pos ⟨h1,h2,h3⟩];unfold F.get;rw [if_pos p.1,List.getD_eq_getElem?_getD,List.getElem?_eq_getElem (show (y % t.2.1 * t.1 + x % t.1).toNat < t.2.2.length by omega)]
 rfl
theorem tat_none {t:Tx} (ht:¬ tok t) (x y:Int):tat t x y = pz:=if_neg ht
theorem texel_spec {fl:Nat} (hfl:3 <= fl) (t:Tx) (x y:Int):texture_Texel fl t x y = some (tat t x y):=by
 unfold texture_Texel;rw [right_spec hfl,ob_some,bnd_eq];by_cases ht:tok t
 ·have g:=tat_get ht x y;obtain ⟨h1,h2,h3⟩:=ht;have m1:=mod_in (x:=y) (w:=t.2.1) (by omega)
  have m2:=mod_in (x:=x) (w:=t.1) (by omega)
  have p:=place m1 m2;have p0:0 <= y % t.2.1 * t.1:=Int.mul_nonneg m1.1 (by omega)
  have ar:=area_in h1 h2;rw [decide_eq_true (show tok t from ⟨h1,h2,h3⟩),not_t,bite_f,nz_t (by omega),bgd_t,bnd_eq,bnd_eq,bgd_t,bnd_eq,wrap_two h1,nz_t (by omega),bgd_t,bnd_eq,bnd_eq,bgd_t,bnd_eq,wrap_two h2,bnd_eq,mulI (by omega),bnd_eq,addI (by omega),g,ob_some]
 ·rw [decide_eq_false ht,not_f,bite_t,tat_none ht]; rfl
theorem cut_spec (fl:Nat) {x:Int} (h:-4611686018427387904 <= x /\ x <= 4611686018427387904):texture_cut fl x = some (x / 16,x % 16):=by
 unfold texture_cut fixed_Floor;rw [mulDiv_spec fl (by omega) (by decide) (by omega) (by decide) (by decide),ob_some,ob_some,Int.mul_one,Int.fdiv_eq_ediv_of_nonneg _ (by decide),bnd_eq,mulI (by simp only; omega),bnd_eq,subI (by simp only; omega)]
 simp only;rw [show x - 16 * (x / 16) = x % 16 by omega]
def mixI (a b k:Int):Int:=(a * (256 - k) + b * k + 128) / 256
def mixC (a b:Pix) (k:Int):Pix:=(mixI a.1 b.1 k,(mixI a.2.1 b.2.1 k,(mixI a.2.2.1 b.2.2.1 k,mixI a.2.2.2 b.2.2.2 k)))
theorem mixI_in {a b k lo hi:Int} (ha:lo <= a /\ a <= hi) (hb:lo <= b /\ b <= hi) (hk:0 <= k /\ k <= 256):lo <= mixI a b k /\ mixI a b k <= hi:=by
 have h1:lo * (256 - k) <= a * (256 - k):=Int.mul_le_mul_of_nonneg_right ha.1 (by omega)
 have h2:a * (256 - k) <= hi * (256 - k):=Int.mul_le_mul_of_nonneg_right ha.2 (by omega)
 have h3:lo * k <= b * k:=Int.mul_le_mul_of_nonneg_right hb.1 hk.1;have h4:b * k <= hi * k:=Int.mul_le_mul_of_nonneg_right hb.2 hk.1;have e1:lo * (256 - k) = lo * 256 - lo * k:=Int.mul_sub ..;have e2:hi * (256 - k) = hi * 256 - hi * k:=Int.mul_sub ..;unfold mixI;omega
theorem mixI_num {a b k:Int} (ha:byte a) (hb:byte b) (hk:0 <= k /\ k <= 256):(0 <= a * (256 - k) /\ a * (256 - k) <= 65280) /\ (0 <= b * k /\ b * k <= 65280):=by
 have h1:0 <= a * (256 - k):=Int.mul_nonneg ha.1 (by omega)
 have h2:a * (256 - k) <= 255 * 256:=Int.mul_le_mul ha.2 (by omega) (by omega) (by decide)
 have h3:0 <= b * k:=Int.mul_nonneg hb.1 hk.1;have h4:b * k <= 255 * 256:=Int.mul_le_mul hb.2 (by omega) (by omega) (by decide)
 omega
theorem wrap8 {n:Int} (h:byte n):IntKind.wrap .u8 n = n:=by
 obtain ⟨h1,h2⟩:=h;simp only [IntKind.wrap,IntKind.bits,IntKind.signed];simp;omega
theorem conv8 {n:Int} (h:byte n):F.conv .u8 n = n:=wrap8 h
theorem quoI {a b:Int} (ha:0 <= a /\ a <= 9223372036854775807) (hb:0 < b):F.quo .i64 a b = a / b:=by
 have h1:0 <= a / b:=Int.ediv_nonneg ha.1 (by omega)
 have h2:a / b <= a:=Int.ediv_le_self b ha.1;unfold F.quo;rw [Int.tdiv_eq_ediv_of_nonneg ha.1,wrapI (by omega) (by omega)]
theorem sat_spec {x:Int} (h:byte x):fixed_Sat x = some x:=by
 unfold fixed_Sat;have h1:=h.1; have h2:=h.2;rw [bnd_eq,f_max,bnd_eq,f_min,show min (max x 0) 255 = x by omega,bnd_eq,conv8 h]
theorem each_spec {a b k:Int} (ha:byte a) (hb:byte b) (hk:0 <= k /\ k <= 256):colour_each_1 a b k = some (mixI a b k):=by
 obtain ⟨h1,h2⟩:=mixI_num ha hb hk;have hm:byte (mixI a b k):=mixI_in ha hb hk;have a1:=ha.1; have a2:=ha.2; have b1:=hb.1; have b2:=hb.2;unfold colour_each_1 colour_Mix_1;rw [bnd_eq,convI (by omega),bnd_eq,convI (by omega),bnd_eq,subI (by omega),bnd_eq,mulI (a:=a) (by omega),bnd_eq,mulI (a:=b) (by omega),bnd_eq,addI (a:=a * (256 - k)) (by omega),bnd_eq,addI (a:=a * (256 - k) + b * k) (by omega),bnd_eq,quoI (by omega) (by decide),ob_some]
 show obind (fixed_Sat (mixI a b k)) _ = _;rw [sat_spec hm,ob_some]
theorem mix_spec {a b:Pix} {k:Int} (ha:pix a) (hb:pix b) (hk:0 <= k /\ k <= 256):colour_Mix a b k = some (mixC a b k):=by
 obtain ⟨a1,a2,a3,a4⟩:=ha;obtain ⟨b1,b2,b3,b4⟩:=hb;unfold colour_Mix colour_each;rw [bnd_eq,f_max,bnd_eq,f_min,show min (max k 0) 256 = k by omega,each_spec a1 b1 hk,ob_some,each_spec a2 b2 hk,ob_some,each_spec a3 b3 hk,ob_some,each_spec a4 b4 hk,ob_some,ob_some]
 rfl
theorem mixC_pix {a b:Pix} {k:Int} (ha:pix a) (hb:pix b) (hk:0 <= k /\ k <= 256):pix (mixC a b k):=by
 obtain ⟨a1,a2,a3,a4⟩:=ha;obtain ⟨b1,b2,b3,b4⟩:=hb;exact ⟨mixI_in a1 b1 hk,mixI_in a2 b2 hk,mixI_in a3 b3 hk,mixI_in a4 b4 hk⟩
/-! ### What is smooth -/
def trow (t:Tx) (u V:Int):Pix:=mixC (tat t ((u - 8) / 16) V) (tat t ((u - 8) / 16 + 1) V) (16 * ((u - 8) % 16))
def tsm (t:Tx) (u v:Int):Pix:=mixC (trow t u ((v - 8) / 16)) (trow t u ((v - 8) / 16 + 1)) (16 * ((v - 8) % 16))
def mid (x:Int):Prop:=-2305843009213693952 <= x /\ x <= 2305843009213693952
theorem frac_in (x:Int):0 <= 16 * (x % 16) /\ 16 * (x % 16) <= 256:=by omega
theorem smooth_spec {fl:Nat} (hfl:3 <= fl) {t:Tx} (ht:pxs t) {u v:Int} (hu:mid u) (hv:mid v):texture_Smooth fl t u v = some (tsm t u v):=by
 unfold mid at hu hv;have row:∀ V,texture_Smooth_1 fl V t ((u - 8) / 16) ((u - 8) % 16) = some (trow t u V):=fun V=>by
  unfold texture_Smooth_1;rw [texel_spec hfl,ob_some,bnd_eq,addI (by omega),texel_spec hfl,ob_some,bnd_eq,mulI (by omega),mix_spec (tat_pix ht _ _) (tat_pix ht _ _) (frac_in _),ob_some]
  rfl
 have p:∀ V,pix (trow t u V):=fun V=>mixC_pix (tat_pix ht _ _) (tat_pix ht _ _) (frac_in _)
 unfold texture_Smooth
 rw [bnd_eq,subI (by omega),cut_spec fl (by omega),ob_some,bnd_eq,subI (by omega),cut_spec fl (by omega),ob_some,row,ob_some,bnd_eq,addI (by simp only; omega),row,ob_some,bnd_eq,mulI (by simp only; omega),
  mix_spec (p _) (p _) (frac_in _),ob_some]
 rfl
/-! ### Pictures made right -/
theorem byte_wrap (n:Int):byte (F.conv .u8 n):=by
 unfold F.conv byte
 simp only [IntKind.wrap,IntKind.bits,IntKind.signed];simp;omega
theorem tex_in {t:Tx} (h:okT (Ty.pair (.int .i64) (.pair (.int .i64) (.list (.pair (.int .u8) (.pair (.int .u8) (.pair (.int .u8) (.int .u8))))))) t):pxs t:=fun c hc=>by
 have:=h.2.2.2 c hc;exact ⟨inR_u8.1 this.1,inR_u8.1 this.2.1,inR_u8.1 this.2.2.1,inR_u8.1 this.2.2.2⟩
theorem pxs_few {t:Tx} (h:pxs t):pxs (t.1,(t.2.1,t.2.2.take 300)):=fun c hc=>h c (List.mem_of_mem_take hc)
end Go.Proofs.Ytomndhdpdhiplaa.VM
namespace Go.Proofs.Ytomndhdpdhiplaa.textureRight
open Go Go.RowKit Go.Proofs.Ytomndhdpdhiplaa.M Go.Proofs.Ytomndhdpdhiplaa.G Go.Proofs.Ytomndhdpdhiplaa.VM
theorem tshown {fl:Nat} (hfl:3 <= fl):glazierlaw11_shown fl = some true:=by
 unfold glazierlaw11_shown
 rw [smooth_spec hfl (fun c hc=>by
  have:c = (0,(0,(0,0))) \/ c = (255,(255,(255,255))):=by simpa using hc
  rcases this with rfl | rfl
  ·exact pix_pz
  ·unfold pix byte; decide) (by unfold mid; decide) (by unfold mid; decide),ob_some]
 decide +kernel
theorem few_spec (t:Tx):glazierlaw11_few t = some (t.1,(t.2.1,t.2.2.take 300)):=by
 unfold glazierlaw11_few;rw [bnd_eq,bnd_eq,lenK];by_cases h:300 < (t.2.2.length:Int)
 ·rw [gt_t h,bite_t];have:F.cutOk t.2.2 0 300 = true:=by unfold F.cutOk; rw [decide_eq_true (by decide),decide_eq_true (by decide),decide_eq_true (by omega)]; rfl
  rw [this,bgd_t];rfl
 ·rw [gt_f (by omega),bite_f,List.take_of_length_le (by omega)]
def good (c:Pix):Prop:=pix c /\ c.1 <= c.2.2.2 /\ c.2.1 <= c.2.2.2 /\ c.2.2.1 <= c.2.2.2
theorem part_in {a b:Int} (ha:byte a) (hb:byte b):∃ y,glazierref02_part a b = some y /\ byte y /\ y <= b:=by
 have a1:=ha.1; have a2:=ha.2; have b1:=hb.1; have b2:=hb.2;have h0:0 <= a * b:=Int.mul_nonneg a1 b1;have h1:a * b <= 255 * b:=Int.mul_le_mul_of_nonneg_right a2 b1;have hy:byte ((2 * (a * b) + 255) / 510):=by unfold byte; omega
 refine ⟨(2 * (a * b) + 255) / 510,?_,hy,by omega⟩
 unfold glazierref02_part glazierref01_Div255;rw [bnd_eq,convI (by omega),bnd_eq,convI (by omega),bnd_eq,mulI (by omega),bnd_eq,lt_f h0,bite_f,bnd_eq,gt_f (by omega),bite_f,bnd_eq,mulI (by omega),bnd_eq,addI (by omega),bnd_eq,quoI (by omega) (by decide),ob_some,bnd_eq,conv8 hy]
theorem pre_in {c:Pix} (h:pix c):∃ d,glazierref02_Pre c = some d /\ good d:=by
 obtain ⟨h1,h2,h3,h4⟩:=h;obtain ⟨a,ea,a1,a2⟩:=part_in h1 h4;obtain ⟨b,eb,b1,b2⟩:=part_in h2 h4;obtain ⟨e,ee,e1,e2⟩:=part_in h3 h4;refine ⟨(a,(b,(e,c.2.2.2))),?_,⟨a1,b1,e1,h4⟩,a2,b2,e2⟩;unfold glazierref02_Pre;rw [ea,ob_some,eb,ob_some,ee,ob_some]
theorem mixI_le {a b c d k:Int} (h1:a <= c) (h2:b <= d) (hk:0 <= k /\ k <= 256):mixI a b k <= mixI c d k:=by
 have e1:a * (256 - k) <= c * (256 - k):=Int.mul_le_mul_of_nonneg_right h1 (by omega)
 have e2:b * k <= d * k:=Int.mul_le_mul_of_nonneg_right h2 hk.1;unfold mixI;omega
theorem mix_good {a b:Pix} {k:Int} (ha:good a) (hb:good b) (hk:0 <= k /\ k <= 256):good (mixC a b k):=
 ⟨mixC_pix ha.1 hb.1 hk,mixI_le ha.2.1 hb.2.1 hk,mixI_le ha.2.2.1 hb.2.2.1 hk,mixI_le ha.2.2.2 hb.2.2.2 hk⟩
theorem tat_mem {t:Tx} (ht:VM.tok t) (x y:Int):tat t x y ∈ t.2.2:=by
 have g:=tat_get ht x y;unfold F.get at g;split at g
 ·exact List.mem_of_getElem? g
 ·cases g
theorem tsm_good {t:Tx} (ht:VM.tok t) (hg:∀ c ∈ t.2.2,good c) (u v:Int):good (tsm t u v):=by
 have g:∀ x y,good (tat t x y):=fun x y=>hg _ (tat_mem ht x y)
 exact mix_good (mix_good (g _ _) (g _ _) (frac_in _)) (mix_good (g _ _) (g _ _) (frac_in _)) (frac_in _)
theorem right_good {c:Pix} (h:good c):glazierref02_Right c = some true:=by
 unfold glazierref02_Right;rw [bnd_eq,le_t h.2.1,bite_t,bnd_eq,le_t h.2.2.1,bite_t,bnd_eq,le_t h.2.2.2]
theorem pre_loop (fl:Nat) {N:Int} {hd:Bool} {w h k:Int} {fine:Bool} {a1 a2 b1 b2 f1 f2:Int} {a3 b3:List Pix}:∀ (m n i:Nat) (l:List Pix),i + m = l.length -> l.length <= 10000 -> m + 1 <= n -> (∀ c ∈ l,pix c) -> (∀ (j:Nat) c,j < i -> l[j]? = some c -> good c) ->
  ∃ l',glazierlaw11_TextureRight_l1 fl n N hd w h k fine (i:Int) a1 a2 a3 b1 b2 b3 f1 f2 l = some (N,(hd,(w,(h,(k,(fine,(a1,(a2,(a3,(b1,(b2,(b3,(f1,(f2,(l',()))))))))))))))) /\ l'.length = l.length /\ ∀ c ∈ l',good c
 | 0,n,i,l,hi,hl,hn,hp,hg=>by
  obtain ⟨n,rfl⟩:∃ q,n = q + 1:=⟨n - 1,by omega⟩
  refine ⟨l,?_,rfl,fun c hc=>?_⟩
  ·rw [glazierlaw11_TextureRight_l1,bnd_eq,lenK,bnd_eq,lt_f (by omega),bite_f]
  ·obtain ⟨j,hj,e⟩:=List.mem_iff_getElem.1 hc;exact hg j c (by omega) (by rw [List.getElem?_eq_getElem hj,e])
 | m + 1,n,i,l,hi,hl,hn,hp,hg=>by
  obtain ⟨n,rfl⟩:∃ q,n = q + 1:=⟨n - 1,by omega⟩
  have hil:i < l.length:=by omega
  obtain ⟨d,ed,gd⟩:=pre_in (hp _ (List.getElem_mem hil));obtain ⟨l',e,el,g⟩:=pre_loop fl (N:=N) (hd:=hd) (w:=w) (h:=h) (k:=k) (fine:=fine) (a1:=a1) (a2:=a2) (b1:=b1) (b2:=b2) (f1:=f1) (f2:=f2) (a3:=a3) (b3:=b3) m n (i + 1) (l.set i d) (by simp; omega) (by simpa using hl) (by omega)
   (fun c hc=>by
    rcases List.mem_or_eq_of_mem_set hc with hc | rfl
    ·exact hp c hc
    ·exact gd.1)
   (fun j c hj hc=>by
    rw [List.getElem?_set] at hc;by_cases hij:i = j
    ·rw [if_pos hij,if_pos (by omega)] at hc
     injection hc with hc;exact hc ▸ gd
    ·rw [if_neg hij] at hc
     exact hg j c (by omega) hc)
  refine ⟨l',?_,by simpa using el,g⟩
  rw [glazierlaw11_TextureRight_l1,bnd_eq,lenK,bnd_eq,lt_t (by omega),bite_t,lgetK hil,ob_some,ed,ob_some]
  rw [show F.has l (i:Int) = true by unfold F.has; rw [decide_eq_true (by omega),decide_eq_true (by omega)]; rfl,bgd_t,ob_some,bnd_eq,addI (by omega)]
  exact e
theorem fit_loopR (fl:Nat) {N:Int} {hd:Bool} {W H k:Int} {fine:Bool} {X Y w h s1 s2 t1 t2 a1 a2 b1 b2:Int} {px t3 a3 b3:List Pix} (hw:1 <= w /\ w <= 16) (hh:1 <= h /\ h <= 16) (hpx:∀ c ∈ px,pix c):∀ (m n:Nat) (acc:List Pix),(acc.length:Int) + m = w * h -> m + 1 <= n -> (∀ c ∈ acc,pix c) ->
  ∃ l,glazierlaw11_TextureRight_i9_l1 fl n (acc.length:Int) N hd W H k fine X Y px w h acc s1 s2 t1 t2 t3 a1 a2 a3 b1 b2 b3 = some (N,(hd,(W,(H,(k,(fine,(w,(h,(l,(s1,(s2,(t1,(t2,(t3,(a1,(a2,(a3,(b1,(b2,(b3,())))))))))))))))))))) /\ (l.length:Int) = w * h /\ ∀ c ∈ l,pix c
 | 0,n,acc,hl,hn,ha=>by
  have ar:=area_in hw hh;obtain ⟨n,rfl⟩:∃ m,n = m + 1:=⟨n - 1,by omega⟩
  rw [glazierlaw11_TextureRight_i9_l1,bnd_eq,mulI (by omega),bnd_eq,lt_f (by omega),bite_f]
  exact ⟨acc,rfl,by omega,ha⟩
 | m + 1,n,acc,hl,hn,ha=>by
  have ar:=area_in hw hh;obtain ⟨n,rfl⟩:∃ q,n = q + 1:=⟨n - 1,by omega⟩
  have step:∀ c,pix c -> ∃ l,glazierlaw11_TextureRight_i9_l1 fl n ((acc.length:Int) + 1) N hd W H k fine X Y px w h (acc ++ [c]) s1 s2 t1 t2 t3 a1 a2 a3 b1 b2 b3 = some (N,(hd,(W,(H,(k,(fine,(w,(h,(l,(s1,(s2,(t1,(t2,(t3,(a1,(a2,(a3,(b1,(b2,(b3,())))))))))))))))))))) /\ (l.length:Int) = w * h /\ ∀ c ∈ l,pix c:=fun c hc=>by
   have:=fit_loopR fl (N:=N) (hd:=hd) (W:=W) (H:=H) (k:=k) (fine:=fine) (X:=X) (Y:=Y) (s1:=s1) (s2:=s2) (t1:=t1) (t2:=t2) (t3:=t3) (a1:=a1) (a2:=a2) (a3:=a3) (b1:=b1) (b2:=b2) (b3:=b3) hw hh hpx m n (acc ++ [c]) (by simp; omega) (by omega) (fun d hd=>by
    rcases List.mem_append.1 hd with hd | hd
    ·exact ha d hd
    ·have:d = c:=by simpa using hd
     rw [this]; exact hc)
   rw [show ((acc ++ [c]).length:Int) = (acc.length:Int) + 1 by simp] at this
   exact this
  rw [glazierlaw11_TextureRight_i9_l1,bnd_eq,mulI (by omega),bnd_eq,lt_t (by omega),bite_t,bnd_eq,bnd_eq,bnd_eq,bnd_eq,bnd_eq,lenK]
  by_cases hin:(acc.length:Int) < (px.length:Int)
  ·rw [lt_t hin,bite_t,lgetK (show acc.length < px.length by omega),ob_some,appOk_t (by simp; omega) (by decide),bgd_t,bnd_eq,appK,bnd_eq,addI (by omega)]
   exact step _ (hpx _ (List.getElem_mem _))
  ·rw [lt_f (by omega),bite_f,appOk_t (by simp; omega) (by decide),bgd_t,bnd_eq,appK,bnd_eq,addI (by omega)]
   exact step _ ⟨byte_wrap _,byte_wrap _,show byte 7 from (by unfold byte; decide),show byte 255 from (by unfold byte; decide)⟩
theorem inR_u16 {x:Int} (h:inR .u16 x):0 <= x /\ x <= 65535:=by
 have e:inR .u16 x ↔ 0 <= x /\ x <= 65535:=by
  unfold inR;simp [Lit.wf,IntKind.min,IntKind.max,IntKind.signed,IntKind.bits]
 exact e.1 h
theorem rem_in {x m:Int} (hx:0 <= x) (hm:0 < m):0 <= F.rem x m /\ F.rem x m < m:=by
 unfold F.rem;rw [Int.tmod_eq_emod_of_nonneg hx];exact ⟨Int.emod_nonneg _ (by omega),Int.emod_lt_of_pos _ hm⟩
theorem tok_fill {w h k:Int} (hk:0 <= k):VM.tok (w,(h,F.fill k (0,(0,(0,0))))) ↔ ((1 <= w /\ w <= 16) /\ (1 <= h /\ h <= 16)) /\ k = w * h:=by
 unfold VM.tok F.fill;simp only [List.length_replicate];omega
noncomputable def rest (fl:Nat) (x0:Int × Int) (x1:Int) (x2:Tx) (Q3:Bool) (V5 V7 V9 V10:Int) (V14:Bool):Option Bool:=
 obind (glazierlaw11_few x2) fun q15=>
 obind (glazierref11_wrap q15.1 16) fun q16=>
 bnd (F.add .i64 1 q16) fun v17=>
 obind (glazierref11_wrap q15.2.1 16) fun q18=>
 bnd (F.add .i64 1 q18) fun v19=>
 obind (glazierlaw11_TextureRight_i9_l1 fl fl 0 x1 Q3 V5 V7 V9 V14 q15.1 q15.2.1 q15.2.2 v17 v19 [] x0.1 x0.2 x2.1 x2.2.1 x2.2.2 V5 V7 (F.fill V9 (0,(0,(0,0)))) V5 V7 (F.fill V10 (0,(0,(0,0))))) fun q20=>
 obind (glazierlaw11_TextureRight_l1 fl fl q20.1 q20.2.1 q20.2.2.1 q20.2.2.2.1 q20.2.2.2.2.1 q20.2.2.2.2.2.1 0 q20.2.2.2.2.2.2.2.2.2.2.2.2.2.2.1 q20.2.2.2.2.2.2.2.2.2.2.2.2.2.2.2.1 q20.2.2.2.2.2.2.2.2.2.2.2.2.2.2.2.2.1 q20.2.2.2.2.2.2.2.2.2.2.2.2.2.2.2.2.2.1 q20.2.2.2.2.2.2.2.2.2.2.2.2.2.2.2.2.2.2.1 q20.2.2.2.2.2.2.2.2.2.2.2.2.2.2.2.2.2.2.2.1 q20.2.2.2.2.2.2.1 q20.2.2.2.2.2.2.2.1 q20.2.2.2.2.2.2.2.2.1) fun q21=>
 bnd (F.conv .i64 q21.1) fun v22=>
 bnd (F.mul .i64 5 v22) fun v23=>
 bnd (F.sub .i64 q21.2.2.1 q21.2.2.2.1) fun v24=>
 obind (texture_Smooth fl (q21.2.2.2.2.2.2.2.2.2.2.2.2.1,(q21.2.2.2.2.2.2.2.2.2.2.2.2.2.1,q21.2.2.2.2.2.2.2.2.2.2.2.2.2.2.1)) v23 v24) fun q25=>
 obind (glazierref02_Right q25) fun q26=>
 bite q21.2.1 (
  obind (texture_Right fl (q21.2.2.2.2.2.2.1,(q21.2.2.2.2.2.2.2.1,q21.2.2.2.2.2.2.2.2.1))) fun q27=>
  bite q21.2.2.2.2.2.1 (
   bnd (F.mul .i64 q21.2.2.1 q21.2.2.2.1) fun v28=>
   bnd (F.eq q21.2.2.2.2.1 v28) fun v29=>
   bnd (F.beq q27 v29) fun v30=>
   bite v30 (
    obind (texture_Right fl (q21.2.2.2.2.2.2.2.2.2.1,(q21.2.2.2.2.2.2.2.2.2.2.1,q21.2.2.2.2.2.2.2.2.2.2.2.1))) fun q31=>
    bnd (F.beq q31 q21.2.2.2.2.2.1) fun v32=>
    bite v32 (
     some q26) (
     some false)) (
    some false)) (
   bnd (F.beq q27 false) fun v33=>
   bite v33 (
    obind (texture_Right fl (q21.2.2.2.2.2.2.2.2.2.1,(q21.2.2.2.2.2.2.2.2.2.2.1,q21.2.2.2.2.2.2.2.2.2.2.2.1))) fun q34=>
    bnd (F.beq q34 q21.2.2.2.2.2.1) fun v35=>
    bite v35 (
     some q26) (
     some false)) (
    some false))) (
  some false)
theorem rest_is (x0:Int × Int) (x1:Int) (hx1:0 <= x1 /\ x1 <= 65535) (x2:Tx) (hp:pxs x2) {w h k:Int} (hw:0 <= w /\ w < 21) (hh:0 <= h /\ h < 21) (hk:0 <= k /\ k < 401) {fine:Bool} (hf:fine = decide ((1 <= w /\ w <= 16) /\ (1 <= h /\ h <= 16))) :
  rest 500 x0 x1 x2 true w h k (w * h) fine = some true:=by
 have hp':=pxs_few hp;have wh:0 <= w * h /\ w * h <= 400:=by
  have:=Int.mul_nonneg hw.1 hh.1;have:w * h <= 20 * 20:=Int.mul_le_mul (by omega) (by omega) (by omega) (by decide)
  omega
 have w1:=mod_in (x:=x2.1) (w:=16) (by decide)
 have w2:=mod_in (x:=x2.2.1) (w:=16) (by decide)
 have ar:=area_in (a:=1 + x2.1 % 16) (b:=1 + x2.2.1 % 16) (by omega) (by omega)
 obtain ⟨l,e,h1,h2⟩:=fit_loopR 500 (N:=x1) (hd:=true) (W:=w) (H:=h) (k:=k) (fine:=fine) (X:=x2.1) (Y:=x2.2.1) (w:=1 + x2.1 % 16) (h:=1 + x2.2.1 % 16) (px:=x2.2.2.take 300) (s1:=x0.1) (s2:=x0.2) (t1:=x2.1) (t2:=x2.2.1) (t3:=x2.2.2)
  (a1:=w) (a2:=h) (a3:=F.fill k (0,(0,(0,0)))) (b1:=w) (b2:=h) (b3:=F.fill (w * h) (0,(0,(0,0)))) (by omega) (by omega) hp' ((1 + x2.1 % 16) * (1 + x2.2.1 % 16)).toNat 500 [] (by simp; omega) (by omega) (by simp)
 rw [show (([]:List Pix).length:Int) = 0 from rfl] at e;obtain ⟨l',e',el,hg⟩:=pre_loop 500 (N:=x1) (hd:=true) (w:=w) (h:=h) (k:=k) (fine:=fine) (a1:=w) (a2:=h) (a3:=F.fill k (0,(0,(0,0)))) (b1:=w) (b2:=h) (b3:=F.fill (w * h) (0,(0,(0,0)))) (f1:=1 + x2.1 % 16) (f2:=1 + x2.2.1 % 16) l.length 500 0 l (by omega) (by omega) (by omega) h2 (fun j c hj=>by omega)
 rw [show ((0:Nat):Int) = 0 from rfl] at e';have tf:VM.tok (1 + x2.1 % 16,(1 + x2.2.1 % 16,l')):=⟨by simp only; omega,by simp only; omega,by simp only; omega⟩
 have pf:pxs (1 + x2.1 % 16,(1 + x2.2.1 % 16,l')):=fun c hc=>(hg c hc).1
 unfold rest;rw [few_spec,ob_some,ref_wrap (by decide),ob_some,bnd_eq,addI (by simp only; omega),ref_wrap (by decide),ob_some,bnd_eq,addI (by simp only; omega)]
 dsimp only;rw [e,ob_some];dsimp only;rw [e',ob_some];dsimp only;rw [bnd_eq,convI (by omega),bnd_eq,mulI (by omega),bnd_eq,subI (by omega),smooth_spec (by omega) pf (by unfold mid; omega) (by unfold mid; omega),ob_some,right_good (tsm_good tf hg _ _),ob_some,bite_t,right_spec (by omega),ob_some]
 by_cases hfin:(1 <= w /\ w <= 16) /\ (1 <= h /\ h <= 16)
 ·rw [decide_eq_true hfin] at hf;subst hf;have tw:VM.tok (w,(h,F.fill (w * h) (0,(0,(0,0))))):=(tok_fill wh.1).2 ⟨hfin,rfl⟩;rw [bite_t,bnd_eq,mulI (by omega),bnd_eq,bnd_eq]
  have:decide (VM.tok (w,(h,F.fill k (0,(0,(0,0)))))) = F.eq k (w * h):=by
   rw [f_eq,decide_eq_decide,tok_fill hk.1];exact ⟨fun q=>q.2,fun q=>⟨hfin,q⟩⟩
  rw [this];have bb:∀ b:Bool,F.beq b b = true:=fun b=>by cases b <;> rfl
  rw [bb,bite_t,right_spec (by omega),ob_some,decide_eq_true tw,bnd_eq,bb,bite_t]
 ·rw [decide_eq_false hfin] at hf;subst hf;rw [bite_f,bnd_eq,decide_eq_false (fun q=>hfin ((tok_fill hk.1).1 q).1)]
  rw [show F.beq false false = true from rfl,bite_t,right_spec (by omega),ob_some,decide_eq_false (fun q=>hfin ((tok_fill wh.1).1 q).1),bnd_eq,show F.beq false false = true from rfl,bite_t]
theorem law (x0:(Ty.pair (.int .u8) (.int .u8)).T) (x1:(Ty.int .u16).T) (x2:(Ty.pair (.int .i64) (.pair (.int .i64) (.list (.pair (.int .u8) (.pair (.int .u8) (.pair (.int .u8) (.int .u8))))))).T)
  (h0:okT (Ty.pair (.int .u8) (.int .u8)) x0) (h1:okT (Ty.int .u16) x1) (h2:okT (Ty.pair (.int .i64) (.pair (.int .i64) (.list (.pair (.int .u8) (.pair (.int .u8) (.pair (.int .u8) (.int .u8))))))) x2):∃ fl,glazierlaw11_TextureRight fl x0 x1 x2 = some true:=by
 refine ⟨500,?_⟩;have hp:=tex_in h2;have n1:=inR_u16 h1;have a1:=inR_u8.1 h0.1;have a2:=inR_u8.1 h0.2;have hw:=rem_in (x:=x0.1) (m:=21) a1.1 (by decide)
 have hh:=rem_in (x:=x0.2) (m:=21) a2.1 (by decide)
 have hk:=rem_in (x:=x1) (m:=401) n1.1 (by decide)
 have key:=fun fine=>rest_is x0 x1 n1 x2 hp hw hh hk (fine:=fine)
 unfold glazierlaw11_TextureRight;rw [tshown (by omega),ob_some,bnd_eq,convI (by omega),bnd_eq,bnd_eq,convI (by omega),bnd_eq,bnd_eq,convI (by omega),bnd_eq]
 generalize F.rem x0.1 21 = w at *
 generalize F.rem x0.2 21 = h at *
 generalize F.rem x1 401 = k at *
 have wh:0 <= w * h /\ w * h <= 400:=by
  have:=Int.mul_nonneg hw.1 hh.1;have:w * h <= 20 * 20:=Int.mul_le_mul (by omega) (by omega) (by omega) (by decide)
  omega
 rw [fillOk_t hk.1 (by omega) (by decide),bgd_t,bnd_eq,mulI (by omega),fillOk_t wh.1 (by omega) (by decide),bgd_t,bnd_eq]
 by_cases c1:1 <= w
 ·rw [ge_t c1,bite_t,bnd_eq];by_cases c2:w <= 16
  ·rw [le_t c2,bite_t,bnd_eq];by_cases c3:1 <= h
   ·rw [ge_t c3,bite_t,bnd_eq];exact key _ (by unfold F.le; rw [decide_eq_decide]; omega)
   ·rw [ge_f (by omega),bite_f]
    exact key _ (decide_eq_false (by omega)).symm
  ·rw [le_f (by omega),bite_f]
   exact key _ (decide_eq_false (by omega)).symm
 ·rw [ge_f (by omega),bite_f]
  exact key _ (decide_eq_false (by omega)).symm
end Go.Proofs.Ytomndhdpdhiplaa.textureRight
