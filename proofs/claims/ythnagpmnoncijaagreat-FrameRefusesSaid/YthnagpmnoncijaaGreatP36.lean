/- Each part of the law, put together. -/
import Derived.Test.YthnagpmnoncijaaGreatMchZ
import Derived.Test.YthnagpmnoncijaaGreatGen
import Derived.KernelRfl
set_option linter.unusedVariables false
set_option maxRecDepth 100000
namespace Go.Proofs.YthnagpmnoncijaaGreat.G
open Go Go.RowKit Go.Proofs.YthnagpmnoncijaaGreat.M
theorem wrapI {n:Int} (h1:-9223372036854775808 <= n) (h2:n <= 9223372036854775807):IntKind.wrap .i64 n = n:=by
 simp only [IntKind.wrap,IntKind.bits,IntKind.signed];simp;split <;> omega
theorem inR_i64 {x:Int}:inR .i64 x ↔ -9223372036854775808 <= x /\ x <= 9223372036854775807:=by
 unfold inR;simp [Lit.wf,IntKind.min,IntKind.max,IntKind.signed,IntKind.bits]
theorem inR_u8 {x:Int}:inR .u8 x ↔ 0 <= x /\ x <= 255:=by
 unfold inR;simp [Lit.wf,IntKind.min,IntKind.max,IntKind.signed,IntKind.bits]
/-! ### The words, of numbers that fit -/
theorem bnd_eq {α β:Type} (e:α) (f:α -> Option β):bnd e f = f e:=rfl
theorem ob_some {α β:Type} (e:α) (f:α -> Option β):obind (some e) f = f e:=rfl
theorem bite_t {β:Type} (x y:Option β):bite true x y = x:=rfl
theorem bite_f {β:Type} (x y:Option β):bite false x y = y:=rfl
theorem bgd_t {β:Type} (x:Option β):bgd true x = x:=rfl
theorem addI {a b:Int} (h:-9223372036854775808 <= a + b /\ a + b <= 9223372036854775807):F.add .i64 a b = a + b:=wrapI h.1 h.2
theorem subI {a b:Int} (h:-9223372036854775808 <= a - b /\ a - b <= 9223372036854775807):F.sub .i64 a b = a - b:=wrapI h.1 h.2
theorem mulI {a b:Int} (h:-9223372036854775808 <= a * b /\ a * b <= 9223372036854775807):F.mul .i64 a b = a * b:=wrapI h.1 h.2
theorem negI {a:Int} (h:-9223372036854775807 <= a /\ a <= 9223372036854775807):F.neg .i64 a = -a:=by
 rw [F.neg,wrapI (by omega) (by omega)]; omega
theorem convI {a:Int} (h:-9223372036854775808 <= a /\ a <= 9223372036854775807):F.conv .i64 a = a:=wrapI h.1 h.2
theorem f_eq {a b:Int}:F.eq a b = decide (a = b):=rfl
theorem f_ne {a b:Int}:F.ne a b = decide (a ≠ b):=by rw [F.ne,bne,Bool.eq_iff_iff]; simp
theorem f_min {a b:Int}:F.min a b = min a b:=by unfold F.min; split <;> omega
theorem f_max {a b:Int}:F.max a b = max a b:=by unfold F.max; split <;> omega
theorem eq_t {a b:Int} (h:a = b):F.eq a b = true:=decide_eq_true h
theorem eq_f {a b:Int} (h:a ≠ b):F.eq a b = false:=decide_eq_false h
theorem ne_f {a b:Int} (h:a = b):F.ne a b = false:=by rw [f_ne]; exact decide_eq_false (fun k=>k h)
theorem ne_t {a b:Int} (h:a ≠ b):F.ne a b = true:=by rw [f_ne]; exact decide_eq_true h
theorem lt_t {a b:Int} (h:a < b):F.lt a b = true:=decide_eq_true h
theorem lt_f {a b:Int} (h:b <= a):F.lt a b = false:=decide_eq_false (by omega)
theorem le_t {a b:Int} (h:a <= b):F.le a b = true:=decide_eq_true h
theorem le_f {a b:Int} (h:b < a):F.le a b = false:=decide_eq_false (by omega)
theorem gt_t {a b:Int} (h:b < a):F.gt a b = true:=decide_eq_true h
theorem gt_f {a b:Int} (h:a <= b):F.gt a b = false:=decide_eq_false (by omega)
theorem ge_t {a b:Int} (h:b <= a):F.ge a b = true:=decide_eq_true h
theorem ge_f {a b:Int} (h:a < b):F.ge a b = false:=decide_eq_false (by omega)
theorem not_t:F.not true = false:=rfl
theorem not_f:F.not false = true:=rfl
end Go.Proofs.YthnagpmnoncijaaGreat.G
namespace Go.Proofs.YthnagpmnoncijaaGreat.G
open Go Go.RowKit Go.Proofs.YthnagpmnoncijaaGreat.M
theorem lgetK {α:Type} {l:List α} {k:Nat} (h:k < l.length):F.get l (k:Int) = some l[k]:=by
 unfold F.get;rw [if_pos (Int.natCast_nonneg k),Int.toNat_natCast,List.getElem?_eq_getElem h]
theorem lgetI {α:Type} {l:List α} {i:Int} {k:Nat} (hi:i = (k:Int)) (h:k < l.length):F.get l i = some l[k]:=by
 rw [hi,lgetK h]
theorem lenK {α:Type} (l:List α):F.len l = (l.length:Int):=rfl
theorem appOk_t {α β:Type} {n:Nat} {l:List α} {m:List β} (h:l.length + m.length <= 100000) (hn:n <= 100000):F.appOk n l m = true:=by
 unfold F.appOk;have h2:(l.length + m.length) * n <= 100000 * 100000:=Nat.mul_le_mul h hn;rw [decide_eq_true (by simp only [maxLen]; omega),decide_eq_true (by omega)]
 rfl
theorem appK {α:Type} (l m:List α):F.app l m = l ++ m:=rfl
theorem fillOk_t {b:Nat} {n:Int} (h0:0 <= n) (h:n <= 100000) (hb:b <= 100000):F.fillOk b n = true:=by
 unfold F.fillOk;have h2:(b:Int) * n <= 100000 * 100000:=Int.mul_le_mul (by omega) h h0 (by decide)
 rw [decide_eq_true h0,decide_eq_true (by simp only [maxLen]; omega),decide_eq_true (by omega)]
 rfl
end Go.Proofs.YthnagpmnoncijaaGreat.G
namespace Go.Proofs.YthnagpmnoncijaaGreat.G
open Go Go.RowKit Go.Proofs.YthnagpmnoncijaaGreat.M
abbrev Tx:=Int × Int × List (Int × Int × Int × Int)
def byte (x:Int):Prop:=0 <= x /\ x <= 255
def tok (t:Tx):Prop:=(1 <= t.1 /\ t.1 <= 16) /\ (1 <= t.2.1 /\ t.2.1 <= 16) /\ (t.2.2.length:Int) = t.1 * t.2.1
instance (t:Tx):Decidable (tok t):=by unfold tok; infer_instance
theorem sides_spec {fl:Nat} (hfl:3 <= fl) (a b:Int):texture_sides fl [a,b] = some (decide ((1 <= a /\ a <= 16) /\ (1 <= b /\ b <= 16))):=by
 obtain ⟨n,rfl⟩:∃ n,fl = n + 3:=⟨fl - 3,by omega⟩
 unfold texture_sides;have l0:F.len [a,b] = 2:=rfl;have g0:F.get [a,b] 0 = some a:=rfl;have g1:F.get [a,b] 1 = some b:=rfl;rw [bnd_eq,l0];rw [texture_sides_l1,bnd_eq,lt_t (by decide),bite_t,g0,ob_some,bnd_eq]
 by_cases h1:a < 1
 ·rw [lt_t h1,bite_t,ob_some,decide_eq_false (by omega)]; rfl
 rw [lt_f (by omega),bite_f,bnd_eq]
 by_cases h2:16 < a
 ·rw [gt_t h2,bite_t,ob_some,decide_eq_false (by omega)]; rfl
 rw [gt_f (by omega),bite_f,bnd_eq,show F.add .i64 0 1 = 1 from rfl]
 rw [texture_sides_l1,bnd_eq,lt_t (by decide),bite_t,g1,ob_some,bnd_eq]
 by_cases h3:b < 1
 ·rw [lt_t h3,bite_t,ob_some,decide_eq_false (by omega)]; rfl
 rw [lt_f (by omega),bite_f,bnd_eq]
 by_cases h4:16 < b
 ·rw [gt_t h4,bite_t,ob_some,decide_eq_false (by omega)]; rfl
 rw [gt_f (by omega),bite_f,bnd_eq,show F.add .i64 1 1 = 2 from rfl]
 rw [texture_sides_l1,bnd_eq,lt_f (by decide),bite_f,ob_some,decide_eq_true (by omega)]; rfl
theorem area_in {a b:Int} (ha:1 <= a /\ a <= 16) (hb:1 <= b /\ b <= 16):1 <= a * b /\ a * b <= 256:=by
 have h1:a * b <= 16 * 16:=Int.mul_le_mul ha.2 hb.2 (by omega) (by decide)
 have h2:1 * 1 <= a * b:=Int.mul_le_mul ha.1 hb.1 (by decide) (by omega)
 omega
theorem right_spec {fl:Nat} (hfl:3 <= fl) (t:Tx):texture_Right fl t = some (decide (tok t)):=by
 unfold texture_Right;rw [sides_spec hfl,ob_some];by_cases h:(1 <= t.1 /\ t.1 <= 16) /\ (1 <= t.2.1 /\ t.2.1 <= 16)
 ·have:=area_in h.1 h.2;rw [decide_eq_true h,bite_t,bnd_eq,bnd_eq,mulI (by omega),bnd_eq,lenK,f_eq]
  congr 1
  rw [decide_eq_decide];exact ⟨fun e=>⟨h.1,h.2,e⟩,fun e=>e.2.2⟩
 ·rw [decide_eq_false h,bite_f,decide_eq_false (fun k=>h ⟨k.1,k.2.1⟩)]
theorem ref_right (t:Tx):glazierref11_Right t = some (decide (tok t)):=by
 unfold glazierref11_Right;by_cases h1:1 <= t.1
 ·rw [bnd_eq,ge_t h1,bite_t,bnd_eq];by_cases h2:t.1 <= 16
  ·rw [le_t h2,bite_t,bnd_eq];by_cases h3:1 <= t.2.1
   ·rw [ge_t h3,bite_t,bnd_eq];by_cases h4:t.2.1 <= 16
    ·have:=area_in ⟨h1,h2⟩ ⟨h3,h4⟩;rw [le_t h4,bite_t,bnd_eq,bnd_eq,mulI (by omega),bnd_eq,lenK,f_eq]
     congr 1
     rw [decide_eq_decide];exact ⟨fun e=>⟨⟨h1,h2⟩,⟨h3,h4⟩,e⟩,fun e=>e.2.2⟩
    ·rw [le_f (by omega),bite_f,decide_eq_false (fun k=>h4 k.2.1.2)]
   ·rw [ge_f (by omega),bite_f,decide_eq_false (fun k=>h3 k.2.1.1)]
  ·rw [le_f (by omega),bite_f,decide_eq_false (fun k=>h2 k.1.2)]
 ·rw [bnd_eq,ge_f (by omega),bite_f,decide_eq_false (fun k=>h1 k.1.1)]
abbrev Ins:=Int × Int × Int × Int × Int
def insB (x:Ins):Prop:=byte x.1 /\ byte x.2.1 /\ byte x.2.2.1 /\ byte x.2.2.2.1 /\ (-9223372036854775808 <= x.2.2.2.2 /\ x.2.2.2.2 <= 9223372036854775807)
def three (o:Int):Prop:=(2 <= o /\ o <= 8) \/ o = 11 \/ o = 13 \/ o = 14
instance (o:Int):Decidable (three o):=by unfold three; infer_instance
def iok (x:Ins) (i n:Int):Prop:=
 (x.2.1 <= 7 /\ x.2.2.1 <= 7 /\ x.2.2.2.1 <= 7) /\
 ((three x.1 /\ x.2.2.2.2 = 0 /\ (x.1 < 13 \/ x.2.1 <= 4)) \/
  (x.1 = 0 /\ x.2.2.1 = 0 /\ x.2.2.2.1 = 0 /\ -2147483648 <= x.2.2.2.2 /\ x.2.2.2.2 <= 2147483647) \/
  (x.1 = 1 /\ x.2.2.2.1 = 0 /\ x.2.2.2.2 = 0) \/
  ((x.1 = 9 \/ x.1 = 10) /\ x.2.2.2.1 = 0 /\ 0 <= x.2.2.2.2 /\ x.2.2.2.2 <= 31) \/
  (x.1 = 12 /\ x.2.1 = 0 /\ x.2.2.2.1 = 0 /\ 0 <= x.2.2.2.2 /\ x.2.2.2.2 <= n - i - 1))
instance (x:Ins) (i n:Int):Decidable (iok x i n):=by unfold iok; infer_instance
theorem dec_of {p q:Prop} [Decidable p] [Decidable q] (h:p ↔ q):some (decide p) = some (decide q):=congrArg some (decide_eq_decide.2 h)
theorem dec_t {p:Prop} [Decidable p] (h:p):some true = some (decide p):=congrArg some (decide_eq_true h).symm
theorem dec_f {p:Prop} [Decidable p] (h:¬ p):some false = some (decide p):=congrArg some (decide_eq_false h).symm
theorem bite_and (p q:Prop) [Decidable p] [Decidable q]:bite (decide p) (some (decide q)) (some false) = some (decide (p /\ q)):=by
 by_cases h:p
 ·rw [decide_eq_true h,bite_t]; congr 1; rw [decide_eq_decide]; exact ⟨fun k=>⟨h,k⟩,fun k=>k.2⟩
 ·rw [decide_eq_false h,bite_f,decide_eq_false (fun k=>h k.1)]
theorem fits_spec (x lo hi:Int) (b:Bool):code_fits x lo hi b = some (decide ((lo <= x /\ x <= hi) /\ (b = true \/ x = 0))):=by
 unfold code_fits;rw [bnd_eq,bnd_eq];by_cases h1:lo <= x
 ·rw [ge_t h1,bite_t];by_cases h2:x <= hi
  ·rw [le_t h2,bite_t];cases b
   ·rw [bite_f,bnd_eq,f_eq]; congr 1; rw [decide_eq_decide]; exact ⟨fun k=>⟨⟨h1,h2⟩,.inr k⟩,fun k=>k.2.resolve_left (by decide)⟩
   ·rw [bite_t,decide_eq_true ⟨⟨h1,h2⟩,.inl rfl⟩]
  ·rw [le_f (by omega),bite_f,decide_eq_false (fun k=>h2 k.1.2)]
 ·rw [ge_f (by omega),bite_f,decide_eq_false (fun k=>h1 k.1.1)]
noncomputable def ask4 (i n D hd:Int) (bd:Bool) (A:Int) (ba:Bool) (B:Int) (bb:Bool) (N lo hi:Int) (bn:Bool):Option Bool:=
 bite (F.ge i 0) (bite (F.lt i n) (
  obind (code_fits (F.conv .i64 D) 0 hd bd) fun q=>bite q (
  obind (code_fits (F.conv .i64 A) 0 7 ba) fun q=>bite q (
  obind (code_fits (F.conv .i64 B) 0 7 bb) fun q=>bite q (
  obind (code_fits N lo hi bn) fun q=>some q) (some false)) (some false)) (some false)) (some false)) (some false)
theorem ask4_spec {i n D hd A B N lo hi:Int} {bd ba bb bn:Bool} (hi0:0 <= i) (hin:i < n) (hD:byte D) (hA:byte A) (hB:byte B) :
  ask4 i n D hd bd A ba B bb N lo hi bn = some (decide ((D <= hd /\ (bd = true \/ D = 0)) /\ (A <= 7 /\ (ba = true \/ A = 0)) /\ (B <= 7 /\ (bb = true \/ B = 0)) /\ (lo <= N /\ N <= hi) /\ (bn = true \/ N = 0))):=by
 unfold byte at hD hA hB;unfold ask4;rw [ge_t hi0,bite_t,lt_t hin,bite_t,convI (by omega),convI (by omega),convI (by omega)]
 simp only [fits_spec,ob_some];rw [bite_and,bite_and,bite_and]
 congr 1
 rw [decide_eq_decide];constructor
 ·intro h; exact ⟨⟨h.1.1.2,h.1.2⟩,⟨h.2.1.1.2,h.2.1.2⟩,⟨h.2.2.1.1.2,h.2.2.1.2⟩,h.2.2.2⟩
 ·intro h; exact ⟨⟨⟨hD.1,h.1.1⟩,h.1.2⟩,⟨⟨hA.1,h.2.1.1⟩,h.2.1.2⟩,⟨⟨hB.1,h.2.2.1.1⟩,h.2.2.1.2⟩,h.2.2.2⟩
theorem op_cases {o:Int} (h:byte o):o = 0 \/ o = 1 \/ o = 2 \/ o = 3 \/ o = 4 \/ o = 5 \/ o = 6 \/ o = 7 \/ o = 8 \/ o = 9 \/ o = 10 \/ o = 11 \/ o = 12 \/ o = 13 \/ o = 14 \/ 15 <= o:=by
 unfold byte at h; omega
section
variable (D A B N i n:Int)
theorem one_0:code_One (0,(D,(A,(B,N)))) i n = ask4 i n D 7 true A false B false N (-2147483648) 2147483647 true:=rfl
theorem one_1:code_One (1,(D,(A,(B,N)))) i n = ask4 i n D 7 true A true B false N 0 0 false:=rfl
theorem one_2:code_One (2,(D,(A,(B,N)))) i n = ask4 i n D 7 true A true B true N 0 0 false:=rfl
theorem one_3:code_One (3,(D,(A,(B,N)))) i n = ask4 i n D 7 true A true B true N 0 0 false:=rfl
theorem one_4:code_One (4,(D,(A,(B,N)))) i n = ask4 i n D 7 true A true B true N 0 0 false:=rfl
theorem one_5:code_One (5,(D,(A,(B,N)))) i n = ask4 i n D 7 true A true B true N 0 0 false:=rfl
theorem one_6:code_One (6,(D,(A,(B,N)))) i n = ask4 i n D 7 true A true B true N 0 0 false:=rfl
theorem one_7:code_One (7,(D,(A,(B,N)))) i n = ask4 i n D 7 true A true B true N 0 0 false:=rfl
theorem one_8:code_One (8,(D,(A,(B,N)))) i n = ask4 i n D 7 true A true B true N 0 0 false:=rfl
theorem one_9:code_One (9,(D,(A,(B,N)))) i n = ask4 i n D 7 true A true B false N 0 31 true:=rfl
theorem one_10:code_One (10,(D,(A,(B,N)))) i n = ask4 i n D 7 true A true B false N 0 31 true:=rfl
theorem one_11:code_One (11,(D,(A,(B,N)))) i n = ask4 i n D 7 true A true B true N 0 0 false:=rfl
theorem one_12:code_One (12,(D,(A,(B,N)))) i n = ask4 i n D 7 false A true B false N 0 (F.sub .i64 (F.sub .i64 n i) 1) true:=rfl
theorem one_13:code_One (13,(D,(A,(B,N)))) i n = ask4 i n D 4 true A true B true N 0 0 false:=rfl
theorem one_14:code_One (14,(D,(A,(B,N)))) i n = ask4 i n D 4 true A true B true N 0 0 false:=rfl
end
theorem one_more {x:Ins} {i n:Int} (h:15 <= x.1):code_One x i n = some false:=by
 have e:∀ k:Int,k < 15 -> F.eq x.1 k = false:=fun k hk=>eq_f (by omega)
 have u:code_uses x.1 = some 0:=by
  unfold code_uses;simp only [bnd_eq,e 0 (by decide),e 1 (by decide),e 2 (by decide),e 3 (by decide),e 4 (by decide),e 5 (by decide),e 6 (by decide),e 7 (by decide),e 8 (by decide),e 9 (by decide),e 10 (by decide),e 11 (by decide),e 12 (by decide),e 13 (by decide),e 14 (by decide),bite_f]
 have a:code_asks x = some false:=by
  unfold code_asks;simp only [bnd_eq,e 13 (by decide),e 14 (by decide),bite_f]
 unfold code_One;rw [u,ob_some,a];simp only [bnd_eq,ob_some,e 0 (by decide),e 9 (by decide),e 10 (by decide),e 12 (by decide),bite_f,show F.gt (0:Int) 0 = false from rfl]
theorem one_spec {x:Ins} {i n:Int} (hx:insB x) (hi0:0 <= i) (hin:i < n) (hn:n <= 100):code_One x i n = some (decide (iok x i n)):=by
 obtain ⟨o,D,A,B,N⟩:=x;obtain ⟨ho,hD,hA,hB,hN⟩:=hx;simp only at ho hD hA hB hN;have hD':=hD; have hA':=hA; have hB':=hB;unfold byte at hD' hA' hB';rcases op_cases ho with rfl | rfl | rfl | rfl | rfl | rfl | rfl | rfl | rfl | rfl | rfl | rfl | rfl | rfl | rfl | hk
 case' inr.inr.inr.inr.inr.inr.inr.inr.inr.inr.inr.inr.inr.inr.inr=>
  rw [one_more hk];refine dec_f ?_;unfold iok three;simp only;omega
 case' inr.inr.inr.inr.inr.inr.inr.inr.inr.inr.inr.inr.inl=>rw [one_12,subI (a:=n) (b:=i) (by omega),subI (by omega)]
 all_goals
  first | rw [one_0] | rw [one_1] | rw [one_2] | rw [one_3] | rw [one_4] | rw [one_5] | rw [one_6] | rw [one_7] | rw [one_8] | rw [one_9] | rw [one_10] | rw [one_11] | rw [one_13] | rw [one_14] | skip
  rw [ask4_spec hi0 hin hD hA hB];refine dec_of ?_;unfold iok three;simp only [true_or,or_true,and_true,true_and,reduceCtorEq,false_or];omega
theorem three_spec (o:Int):glazierref12_three o = some (decide (three o)):=by
 unfold glazierref12_three;have e:∀ b:Bool,(bnd (F.eq o 11) fun v3=>bite v3 (some true) (bnd (F.eq o 13) fun v4=>bite v4 (some true) (bnd (F.eq o 14) fun v5=>some v5))) = some (decide (o = 11 \/ o = 13 \/ o = 14)):=fun b=>by
  rw [bnd_eq,bnd_eq,bnd_eq];by_cases h1:o = 11
  ·rw [eq_t h1,bite_t,decide_eq_true (.inl h1)]
  rw [eq_f h1,bite_f];by_cases h2:o = 13
  ·rw [eq_t h2,bite_t,decide_eq_true (.inr (.inl h2))]
  rw [eq_f h2,bite_f,f_eq]
  congr 1
  rw [decide_eq_decide];omega
 rw [e false,bnd_eq,bnd_eq];by_cases h1:2 <= o
 ·rw [ge_t h1,bite_t];by_cases h2:o <= 8
  ·rw [le_t h2,bite_t]; exact dec_t (.inl ⟨h1,h2⟩)
  ·rw [le_f (by omega),bite_f]; refine dec_of ?_; unfold three; omega
 ·rw [ge_f (by omega),bite_f]; refine dec_of ?_; unfold three; omega
theorem ref_one {x:Ins} {i n:Int} (hx:insB x) (hi0:0 <= i) (hin:i < n) (hn:n <= 100):glazierref12_One x i n = some (decide (iok x i n)):=by
 obtain ⟨o,D,A,B,N⟩:=x;obtain ⟨ho,hD,hA,hB,hN⟩:=hx;simp only at ho hD hA hB hN;unfold byte at ho hD hA hB;unfold glazierref12_One;simp only;rw [three_spec];by_cases h1:7 < D
 ·rw [bnd_eq,gt_t h1,bite_t]; refine dec_f ?_; unfold iok; simp only; omega
 rw [bnd_eq,gt_f (by omega),bite_f]
 by_cases h2:7 < A
 ·rw [bnd_eq,gt_t h2,bite_t]; refine dec_f ?_; unfold iok; simp only; omega
 rw [bnd_eq,gt_f (by omega),bite_f]
 by_cases h3:7 < B
 ·rw [bnd_eq,gt_t h3,bite_t]; refine dec_f ?_; unfold iok; simp only; omega
 rw [bnd_eq,gt_f (by omega),bite_f,bnd_eq,lt_f hi0,bite_f,bnd_eq,ge_f hin,bite_f,ob_some]
 by_cases h4:three o
 ·rw [decide_eq_true h4,bite_t,bnd_eq];unfold three at h4;by_cases h5:N = 0
  ·rw [eq_t h5,bite_t,bnd_eq];by_cases h6:o < 13
   ·rw [lt_t h6,bite_t]; refine dec_t ?_; unfold iok three; simp only; omega
   ·rw [lt_f (by omega),bite_f,bnd_eq,F.le]; refine dec_of ?_; unfold iok three; simp only; omega
  ·rw [eq_f h5,bite_f]; refine dec_f ?_; unfold iok three; simp only; omega
 rw [decide_eq_false h4,bite_f,bnd_eq];unfold three at h4;by_cases h5:B = 0
 case neg=>rw [ne_t h5,bite_t]; refine dec_f ?_; unfold iok three; simp only; omega
 rw [ne_f h5,bite_f];simp only [bnd_eq,F.le,F.ge,f_eq,bite_and,ge_iff_le];by_cases h6:o = 0
 ·rw [decide_eq_true h6,bite_t]; refine dec_of ?_; unfold iok three; simp only; omega
 rw [decide_eq_false h6,bite_f];by_cases h7:o = 1
 ·rw [decide_eq_true h7,bite_t]; refine dec_of ?_; unfold iok three; simp only; omega
 rw [decide_eq_false h7,bite_f];by_cases h8:o = 9
 ·rw [decide_eq_true h8,bite_t,bite_t]; refine dec_of ?_; unfold iok three; simp only; omega
 rw [decide_eq_false h8,bite_f];by_cases h9:o = 10
 ·rw [decide_eq_true h9,bite_t]; refine dec_of ?_; unfold iok three; simp only; omega
 rw [decide_eq_false h9,bite_f];rw [subI (a:=n) (b:=i) (by omega),subI (by omega)]; refine dec_of ?_; unfold iok three; simp only; omega
/-! ### Whole programs -/
def progs (l:List Ins):Prop:=∀ x ∈ l,insB x
def prog (l:List Ins):Prop:=1 <= l.length /\ l.length <= 32 /\ ∀ (j:Nat) (h:j < l.length),iok l[j] j l.length
noncomputable instance (l:List Ins):Decidable (prog l):=Classical.propDecidable _
theorem check_loop (fl:Nat) {l:List Ins} (hl:progs l) (hs:l.length <= 32):∀ (k n i:Nat),i + k = l.length -> k + 1 <= n -> (∀ (j:Nat) (h:j < l.length),j < i -> iok l[j] j l.length) ->
  ∃ s,code_Check_l1 fl n l l l.length i = some s /\ glazierref12_Check_l1 fl n l i = some s /\ ((∃ u,s = .inr u) ↔ ∀ (j:Nat) (h:j < l.length),iok l[j] j l.length)
 | 0,n,i,hk,hn,hj=>by
  obtain ⟨n,rfl⟩:∃ m,n = m + 1:=⟨n - 1,by omega⟩
  simp only [code_Check_l1,glazierref12_Check_l1,lenK,bnd_eq];rw [lt_f (by omega),bite_f,bite_f]
  exact ⟨_,rfl,rfl,fun _ j h=>hj j h (by omega),fun _=>⟨_,rfl⟩⟩
 | k + 1,n,i,hk,hn,hj=>by
  obtain ⟨n,rfl⟩:∃ m,n = m + 1:=⟨n - 1,by omega⟩
  have hx:=hl _ (List.getElem_mem (show i < l.length by omega))
  simp only [code_Check_l1,glazierref12_Check_l1,lenK,bnd_eq]
  rw [lt_t (by omega),bite_t,bite_t,lgetK (show i < l.length by omega),ob_some,ob_some,
   one_spec hx (by omega) (by omega) (by omega),ref_one hx (by omega) (by omega) (by omega),ob_some,ob_some]
  by_cases h:iok l[i] i l.length
  ·rw [decide_eq_true h,not_t,bite_f,bite_f,addI (by omega)]
   exact check_loop fl hl hs k n (i + 1) (by omega) (by omega) (fun j h' hji=>by
    rcases Nat.lt_or_eq_of_le (show j <= i by omega) with q | q
    ·exact hj j h' q
    ·subst q; exact h)
  ·rw [decide_eq_false h,not_f,bite_t,bite_t];exact ⟨_,rfl,rfl,fun ⟨u,hu⟩=>(nomatch hu),fun hall=>absurd (hall i (by omega)) h⟩
theorem check_spec {fl:Nat} (hfl:40 <= fl) {l:List Ins} (hl:progs l) :
  code_Check fl l = some (if prog l then 0 else 23) /\ glazierref12_Check fl l = some (if prog l then 0 else 23):=by
 unfold code_Check glazierref12_Check;simp only [bnd_eq,lenK];by_cases h1:l.length = 0
 ·rw [eq_t (by omega),bite_t,lt_t (by omega),bite_t,if_neg (fun k=>by have:=k.1; omega)]
  exact ⟨rfl,rfl⟩
 rw [eq_f (by omega),bite_f,lt_f (by omega),bite_f]
 by_cases h2:32 < l.length
 ·rw [gt_t (by omega),bite_t,bite_t,if_neg (fun k=>by have:=k.2.1; omega)]
  exact ⟨rfl,rfl⟩
 rw [gt_f (by omega),bite_f,bite_f]
 obtain ⟨s,e1,e2,hs⟩:=check_loop fl hl (by omega) l.length fl 0 (by omega) (by omega) (fun j _ h=>by omega)
 rw [show ((0:Nat):Int) = 0 from rfl] at e1 e2;rw [e1,e2,ob_some];cases s with
 | inl u=>rw [if_neg (fun k=>by obtain ⟨u,hu⟩:=hs.2 k.2.2; cases hu)]; exact ⟨rfl,rfl⟩
 | inr u=>rw [if_pos ⟨by omega,by omega,hs.1 ⟨_,rfl⟩⟩]; exact ⟨rfl,rfl⟩
def asks (l:List Ins):Prop:=∃ x ∈ l,x.1 = 13 \/ x.1 = 14
instance (l:List Ins):Decidable (asks l):=by unfold asks; infer_instance
theorem asks_one (x:Ins):code_asks x = some (decide (x.1 = 13 \/ x.1 = 14)):=by
 unfold code_asks;rw [bnd_eq,bnd_eq];by_cases h:x.1 = 13
 ·rw [eq_t h,bite_t,decide_eq_true (.inl h)]
 ·rw [eq_f h,bite_f,f_eq]; congr 1; rw [decide_eq_decide]; omega
theorem asks_loop (fl:Nat) {l:List Ins} (hs:l.length <= 100):∀ (k n i:Nat),i + k = l.length -> k + 1 <= n -> (∀ (j:Nat) (h:j < l.length),j < i -> ¬ (l[j].1 = 13 \/ l[j].1 = 14)) ->
  (∃ s,slices_IndexFunc__5_l1 fl n l () l.length i = some s /\ ((∃ u,s = .inr u) /\ ¬ asks l \/ (∃ z,s = .inl z /\ 0 <= z.1) /\ asks l)) /\
  (∃ s,glazierref12_Samples_l1 fl n l i = some s /\ ((∃ u,s = .inr u) /\ ¬ asks l \/ (∃ z,s = .inl z) /\ asks l))
 | 0,n,i,hk,hn,hj=>by
  obtain ⟨n,rfl⟩:∃ m,n = m + 1:=⟨n - 1,by omega⟩
  simp only [slices_IndexFunc__5_l1,glazierref12_Samples_l1,lenK,bnd_eq];rw [lt_f (by omega),bite_f,bite_f]
  have no:¬ asks l:=fun ⟨x,hx,h⟩=>by
   obtain ⟨j,hjl,rfl⟩:=List.getElem_of_mem hx;exact hj j hjl (by omega) h
  exact ⟨⟨_,rfl,.inl ⟨⟨_,rfl⟩,no⟩⟩,⟨_,rfl,.inl ⟨⟨_,rfl⟩,no⟩⟩⟩
 | k + 1,n,i,hk,hn,hj=>by
  obtain ⟨n,rfl⟩:∃ m,n = m + 1:=⟨n - 1,by omega⟩
  have hm:=List.getElem_mem (show i < l.length by omega)
  simp only [slices_IndexFunc__5_l1,glazierref12_Samples_l1,lenK,bnd_eq];rw [lt_t (by omega),bite_t,bite_t,lgetK (show i < l.length by omega),ob_some,ob_some,asks_one,ob_some]
  by_cases h:l[i].1 = 13 \/ l[i].1 = 14
  ·have yes:asks l:=⟨_,hm,h⟩;rw [decide_eq_true h,bite_t];refine ⟨⟨_,rfl,.inr ⟨⟨_,rfl,by simp only; omega⟩,yes⟩⟩,?_⟩
   by_cases h1:l[i].1 = 13
   ·rw [eq_t h1,bite_t]; exact ⟨_,rfl,.inr ⟨⟨_,rfl⟩,yes⟩⟩
   ·rw [eq_f h1,bite_f,ob_some,eq_t (h.resolve_left h1),bite_t]; exact ⟨_,rfl,.inr ⟨⟨_,rfl⟩,yes⟩⟩
  ·have:=asks_loop fl hs k n (i + 1) (by omega) (by omega) (fun j h' hji=>by
    rcases Nat.lt_or_eq_of_le (show j <= i by omega) with q | q
    ·exact hj j h' q
    ·subst q; exact h)
   rw [decide_eq_false h,bite_f,addI (by omega),eq_f (by omega),bite_f,ob_some,eq_f (by omega),bite_f]
   exact this
theorem asks_spec {fl:Nat} (hfl:101 <= fl) {l:List Ins} (hl:l.length <= 100):code_Samples fl l = some (decide (asks l)) /\ glazierref12_Samples fl l = some (decide (asks l)):=by
 obtain ⟨⟨s,e1,hs⟩,⟨s',e2,hs'⟩⟩:=asks_loop fl hl l.length fl 0 (by omega) (by omega) (fun j _ h=>by omega)
 rw [show ((0:Nat):Int) = 0 from rfl] at e1 e2;constructor
 ·unfold code_Samples slices_ContainsFunc__5 slices_IndexFunc__5;rw [bnd_eq,lenK,e1,ob_some];rcases hs with ⟨⟨u,rfl⟩,h⟩ | ⟨⟨z,rfl,hz⟩,h⟩
  ·rw [decide_eq_false h]; rfl
  ·rw [decide_eq_true h,osum,ob_some,bnd_eq,ge_t hz,ob_some]
 ·unfold glazierref12_Samples;rw [e2,ob_some];rcases hs' with ⟨⟨u,rfl⟩,h⟩ | ⟨⟨z,rfl⟩,h⟩
  ·rw [decide_eq_false h]; rfl
  ·rw [decide_eq_true h]; rfl
end Go.Proofs.YthnagpmnoncijaaGreat.G
namespace Go.Proofs.YthnagpmnoncijaaGreat.G
open Go Go.RowKit Go.Proofs.YthnagpmnoncijaaGreat.M
abbrev Vx:=Int × Int × Int × Int × Int × Int × Int × Int
abbrev Dr:=Int × Int × Int × Bool × List (Int × Int × Int × Int)
abbrev Sc:=Int × Int × (Int × Int × Int × Int) × (List (Int × Int × Int × Int × Int × Int × Int × Int)) × (List (Int × Int × List (Int × Int × Int × Int))) × (List (List (Int × Int × Int × Int × Int))) × List (Int × Int × Int × Bool × List (Int × Int × Int × Int))
/-! ### Vertices -/
def inR8 (v:Vx):Prop:=(-32768 <= v.1 /\ v.1 <= 32768) /\ (-32768 <= v.2.1 /\ v.2.1 <= 32768) /\ (-32768 <= v.2.2.1 /\ v.2.2.1 <= 32768) /\ (-32768 <= v.2.2.2.1 /\ v.2.2.2.1 <= 32768) /\
 (-4096 <= v.2.2.2.2.1 /\ v.2.2.2.2.1 <= 4096) /\ (-4096 <= v.2.2.2.2.2.1 /\ v.2.2.2.2.2.1 <= 4096) /\ (-4096 <= v.2.2.2.2.2.2.1 /\ v.2.2.2.2.2.2.1 <= 4096) /\ (-4096 <= v.2.2.2.2.2.2.2 /\ v.2.2.2.2.2.2.2 <= 4096)
instance (v:Vx):Decidable (inR8 v):=by unfold inR8; infer_instance
def vok (v:Vx):Prop:=inR8 v /\ 0 < v.2.2.2.1
instance (v:Vx):Decidable (vok v):=by unfold vok; infer_instance
theorem clamp_eq {x m:Int} (hm:0 <= m):F.eq (F.min (F.max x (-m)) m) x = decide (-m <= x /\ x <= m):=by
 rw [f_eq,f_min,f_max,decide_eq_decide];omega
theorem both_dec (p q:Prop) [Decidable p] [Decidable q]:F.both (decide p) (decide q) = decide (p /\ q):=by
 unfold F.both;by_cases h:p <;> by_cases k:q <;> simp [h,k]
theorem vec_right (v:Vx):vec_Right v = some (decide (vok v)):=by
 unfold vec_Right vec_row vec_held;simp only [ob_some,bnd_eq];rw [clamp_eq (m:=32768) (by decide),clamp_eq (m:=32768) (by decide),clamp_eq (m:=32768) (by decide),clamp_eq (m:=32768) (by decide),clamp_eq (m:=4096) (by decide),clamp_eq (m:=4096) (by decide),clamp_eq (m:=4096) (by decide),clamp_eq (m:=4096) (by decide)]
 simp only [both_dec];rw [show F.gt v.2.2.2.1 0 = decide (0 < v.2.2.2.1) from rfl,bite_and];rfl
theorem ref_within {x m:Int} (hm:0 <= m /\ m <= 100000):glazierref04_within x m = some (decide (-m <= x /\ x <= m)):=by
 unfold glazierref04_within;rw [bnd_eq,negI (by omega),bnd_eq,bnd_eq]
 rw [show F.ge x (-m) = decide (-m <= x) from rfl,show F.le x m = decide (x <= m) from rfl,bite_and]
theorem vec_ref (v:Vx):glazierref04_Right v = some (decide (vok v)):=by
 have no:¬ vok v -> some false = some (decide (vok v)):=dec_f;unfold glazierref04_Right;simp only [bnd_eq];by_cases h1:v.2.2.2.2.1 < -4096
 ·rw [lt_t h1,bite_t]; exact no fun k=>by have:=k.1.2.2.2.2.1; omega
 rw [lt_f (by omega),bite_f]
 by_cases h2:4096 < v.2.2.2.2.1
 ·rw [gt_t h2,bite_t]; exact no fun k=>by have:=k.1.2.2.2.2.1; omega
 rw [gt_f (by omega),bite_f]
 by_cases h3:v.2.2.2.2.2.1 < -4096
 ·rw [lt_t h3,bite_t]; exact no fun k=>by have:=k.1.2.2.2.2.2.1; omega
 rw [lt_f (by omega),bite_f]
 by_cases h4:4096 < v.2.2.2.2.2.1
 ·rw [gt_t h4,bite_t]; exact no fun k=>by have:=k.1.2.2.2.2.2.1; omega
 rw [gt_f (by omega),bite_f]
 by_cases h5:v.2.2.2.2.2.2.1 < -4096
 ·rw [lt_t h5,bite_t]; exact no fun k=>by have:=k.1.2.2.2.2.2.2.1; omega
 rw [lt_f (by omega),bite_f]
 by_cases h6:4096 < v.2.2.2.2.2.2.1
 ·rw [gt_t h6,bite_t]; exact no fun k=>by have:=k.1.2.2.2.2.2.2.1; omega
 rw [gt_f (by omega),bite_f]
 by_cases h7:v.2.2.2.2.2.2.2 < -4096
 ·rw [lt_t h7,bite_t]; exact no fun k=>by have:=k.1.2.2.2.2.2.2.2; omega
 rw [lt_f (by omega),bite_f]
 by_cases h8:4096 < v.2.2.2.2.2.2.2
 ·rw [gt_t h8,bite_t]; exact no fun k=>by have:=k.1.2.2.2.2.2.2.2; omega
 rw [gt_f (by omega),bite_f,ref_within (by decide),ref_within (by decide),ref_within (by decide),ob_some,ob_some,ob_some]
 rw [show F.ge v.2.2.2.1 1 = decide (1 <= v.2.2.2.1) from rfl,show F.le v.2.2.2.1 32768 = decide (v.2.2.2.1 <= 32768) from rfl,bite_and,bite_and,bite_and,bite_and];refine dec_of ?_;unfold vok inR8;omega
/-! ### Searches -/
theorem search {α β:Type} {L:Nat -> List α -> β -> Int -> Int -> Option ((Int × Unit) ⊕ Unit)} {f:α -> Option Bool} {c:β}
  (hL:∀ n l m i,L (n + 1) l c m i = bite (F.lt i m) (obind (F.get l i) fun q=>obind (f q) fun r=>bite r (some (.inl (i,()))) (L n l c m (F.add .i64 i 1))) (some (.inr ())))
  {p:α -> Prop} [DecidablePred p] {l:List α} (hf:∀ x ∈ l,f x = some (decide (p x))) (hs:l.length <= 100000):∀ (k n i:Nat),i + k = l.length -> k + 1 <= n -> (∀ (j:Nat) (h:j < l.length),j < i -> ¬ p l[j]) ->
  ∃ s,L n l c l.length i = some s /\ (((∃ u,s = .inr u) /\ ¬ ∃ x ∈ l,p x) \/ ((∃ z,s = .inl z /\ 0 <= z.1) /\ ∃ x ∈ l,p x))
 | 0,n,i,hk,hn,hj=>by
  obtain ⟨n,rfl⟩:∃ m,n = m + 1:=⟨n - 1,by omega⟩
  rw [hL,lt_f (by omega),bite_f]
  refine ⟨_,rfl,.inl ⟨⟨_,rfl⟩,fun ⟨x,hx,h⟩=>?_⟩⟩
  obtain ⟨j,hjl,rfl⟩:=List.getElem_of_mem hx;exact hj j hjl (by omega) h
 | k + 1,n,i,hk,hn,hj=>by
  obtain ⟨n,rfl⟩:∃ m,n = m + 1:=⟨n - 1,by omega⟩
  have hm:=List.getElem_mem (show i < l.length by omega)
  rw [hL,lt_t (by omega),bite_t,lgetK (show i < l.length by omega),ob_some,hf _ hm,ob_some]
  by_cases h:p l[i]
  ·rw [decide_eq_true h,bite_t];exact ⟨_,rfl,.inr ⟨⟨_,rfl,by simp only; omega⟩,_,hm,h⟩⟩
  ·rw [decide_eq_false h,bite_f,addI (by omega)]
   exact search hL hf hs k n (i + 1) (by omega) (by omega) fun j h' hji=>by
    rcases Nat.lt_or_eq_of_le (show j <= i by omega) with q | q
    ·exact hj j h' q
    ·subst q; exact h
theorem search_all {α β:Type} {L:Nat -> List α -> β -> Int -> Int -> Option ((Int × Unit) ⊕ Unit)} {f:α -> Option Bool} {c:β} {fl:Nat}
  (hL:∀ n l m i,L (n + 1) l c m i = bite (F.lt i m) (obind (F.get l i) fun q=>obind (f q) fun r=>bite r (some (.inl (i,()))) (L n l c m (F.add .i64 i 1))) (some (.inr ())))
  {p:α -> Prop} [DecidablePred p] {l:List α} (hf:∀ x ∈ l,f x = some (decide (p x))) (hs:l.length + 1 <= fl) (hs2:l.length <= 100000) :
  (obind (obind (L fl l c l.length 0) fun q=>osum q (fun s=>some s.1) (fun r=>some (-1))) fun q=>some (F.ge q 0)) = some (decide (∃ x ∈ l,p x)):=by
 obtain ⟨s,e,h⟩:=search hL hf hs2 l.length fl 0 (by omega) (by omega) (fun j _ h=>by omega)
 rw [show ((0:Nat):Int) = 0 from rfl] at e;rw [e,ob_some];rcases h with ⟨⟨u,rfl⟩,h⟩ | ⟨⟨z,rfl,hz⟩,h⟩
 ·rw [decide_eq_false h]; rfl
 ·rw [decide_eq_true h,osum,ob_some,ge_t hz]
theorem scan {α γ δ:Type} {L:Nat -> Int -> Option (γ ⊕ δ)} {step:α -> Option (γ ⊕ δ) -> Option (γ ⊕ δ)} {c:γ} {d:δ} {l:List α} (hL:∀ n i,L (n + 1) i = bite (F.lt i (l.length:Int)) (obind (F.get l i) fun q=>step q (L n (F.add .i64 i 1))) (some (.inr d)))
  {p:α -> Prop} [DecidablePred p] (h1:∀ q ∈ l,p q -> ∀ K,step q K = some (.inl c)) (h0:∀ q ∈ l,¬ p q -> ∀ K,step q K = K) (hs:l.length <= 100000):∀ (k n i:Nat),i + k = l.length -> k + 1 <= n -> (∀ (j:Nat) (h:j < l.length),j < i -> ¬ p l[j]) ->
  L n i = if ∃ x ∈ l,p x then some (.inl c) else some (.inr d)
 | 0,n,i,hk,hn,hj=>by
  obtain ⟨n,rfl⟩:∃ m,n = m + 1:=⟨n - 1,by omega⟩
  rw [hL,lt_f (by omega),bite_f,if_neg]
  rintro ⟨x,hx,h⟩
  obtain ⟨j,hjl,rfl⟩:=List.getElem_of_mem hx;exact hj j hjl (by omega) h
 | k + 1,n,i,hk,hn,hj=>by
  obtain ⟨n,rfl⟩:∃ m,n = m + 1:=⟨n - 1,by omega⟩
  have hm:=List.getElem_mem (show i < l.length by omega)
  rw [hL,lt_t (by omega),bite_t,lgetK (show i < l.length by omega),ob_some]
  by_cases h:p l[i]
  ·rw [h1 _ hm h,if_pos ⟨_,hm,h⟩]
  ·rw [h0 _ hm h,addI (by omega)]
   exact scan hL h1 h0 hs k n (i + 1) (by omega) (by omega) fun j h' hji=>by
    rcases Nat.lt_or_eq_of_le (show j <= i by omega) with q | q
    ·exact hj j h' q
    ·subst q; exact h
/-! ### Draws without triangles -/
def bare (l:List Dr):Prop:=∀ d ∈ l,d.2.2.2.2 = []
def nok (vn tn pn:Int) (P:List (List Ins)) (d:Dr):Prop:=(0 <= d.1 /\ d.1 < 10000) /\ (0 <= d.2.1 /\ d.2.1 < pn) /\ (-1 <= d.2.2.1 /\ d.2.2.1 < tn) /\ (0 <= d.2.2.1 \/ ¬ asks (P.getD d.2.1.toNat []))
noncomputable instance (a b c:Int) (P:List (List Ins)) (d:Dr):Decidable (nok a b c P d):=Classical.propDecidable _
theorem within_spec (x a b:Int):scene_within x a b = some (decide (a <= x /\ x < b)):=by
 unfold scene_within;rw [bnd_eq,bnd_eq,show F.ge x a = decide (a <= x) from rfl,show F.lt x b = decide (x < b) from rfl,bite_and]
theorem names_spec {fl:Nat} (hfl:101 <= fl) {x:Sc} {d:Dr} (hd:d.2.2.2.2 = []) (hP:∀ q ∈ x.2.2.2.2.2.1,q.length <= 100) :
  scene_names fl x d = some (decide (nok x.2.2.2.1.length x.2.2.2.2.1.length x.2.2.2.2.2.1.length x.2.2.2.2.2.1 d)):=by
 obtain ⟨m,rfl⟩:∃ m,fl = m + 1:=⟨fl - 1,by omega⟩
 unfold scene_names;simp only [within_spec,ob_some,bnd_eq,lenK,hd];by_cases h1:0 <= d.1 /\ d.1 < 10000
 case neg=>rw [decide_eq_false h1,not_f,bite_t]; exact dec_f fun k=>h1 k.1
 rw [decide_eq_true h1,not_t,bite_f];by_cases h2:0 <= d.2.1 /\ d.2.1 < (x.2.2.2.2.2.1.length:Int)
 case neg=>rw [decide_eq_false h2,not_f,bite_t]; exact dec_f fun k=>h2 k.2.1
 rw [decide_eq_true h2,not_t,bite_f];by_cases h3:-1 <= d.2.2.1 /\ d.2.2.1 < (x.2.2.2.2.1.length:Int)
 case neg=>rw [decide_eq_false h3,not_f,bite_t]; exact dec_f fun k=>h3 k.2.2.1
 rw [decide_eq_true h3,not_t,bite_f,scene_names_l1,bnd_eq,show F.lt 0 (([]:List (Int × Int × Int × Int)).length:Int) = false from rfl,bite_f,ob_some];simp only [osum];by_cases h4:0 <= d.2.2.1
 ·rw [ge_t h4,bite_t]; exact dec_t ⟨h1,h2,h3,.inl h4⟩
 ·have hlt:d.2.1.toNat < x.2.2.2.2.2.1.length:=by omega
  rw [ge_f (by omega),bite_f,lgetI (k:=d.2.1.toNat) (by omega) hlt,ob_some,(asks_spec hfl (hP _ (List.getElem_mem hlt))).1,ob_some]
  have hg:x.2.2.2.2.2.1.getD d.2.1.toNat [] = x.2.2.2.2.2.1[d.2.1.toNat]:=by rw [List.getD_eq_getElem?_getD,List.getElem?_eq_getElem hlt]; rfl
  by_cases h5:asks x.2.2.2.2.2.1[d.2.1.toNat]
  ·rw [decide_eq_true h5,not_t]; exact dec_f fun k=>k.2.2.2.elim h4 fun k=>k (by rw [hg]; exact h5)
  ·rw [decide_eq_false h5,not_f]; exact dec_t ⟨h1,h2,h3,.inr (by rw [hg]; exact h5)⟩
theorem twice_bare {d:Dr} (hd:d.2.2.2.2 = []):scene_twice d = some false:=by
 unfold scene_twice;rw [hd];rfl
def dup (l:List Dr) (i:Nat):Prop:=∃ x ∈ l.take i,x.1 = (l.getD i (0,0,0,false,[])).1
instance (l:List Dr) (i:Nat):Decidable (dup l i):=by unfold dup; infer_instance
theorem cut_spec {fl:Nat} {l:List Dr} {i:Nat} (hi:i < l.length) (hs:l.length + 1 <= fl) (hs2:l.length <= 100000):slices_ContainsFunc__6 fl (F.cut l 0 i) l[i] = some (decide (dup l i)):=by
 have e:F.cut l 0 (i:Int) = l.take i:=by simp [F.cut]
 have hl:(l.take i).length <= l.length:=by rw [List.length_take]; omega
 rw [e];unfold slices_ContainsFunc__6 slices_IndexFunc__6;simp only [bnd_eq,lenK];refine (search_all (L:=slices_IndexFunc__6_l1 fl) (f:=fun q=>scene_Check_4 q l[i]) (fun n l m i=>rfl) (p:=fun q=>q.1 = l[i].1) (fun q _=>?_) (by omega) (by omega)).trans ?_
 ·unfold scene_Check_4; rfl
 ·refine dec_of ?_;unfold dup;rw [List.getD_eq_getElem?_getD,List.getElem?_eq_getElem hi];rfl
theorem ref_draw {fl:Nat} (hfl:101 <= fl) {x:Sc} {i:Nat} (hi:i < x.2.2.2.2.2.2.length) (hb:bare x.2.2.2.2.2.2) (hP:∀ q ∈ x.2.2.2.2.2.1,q.length <= 100) (hs:x.2.2.2.2.2.2.length + 1 <= fl) (hs2:x.2.2.2.2.2.2.length <= 100000) :
  glazierref14_draw fl x i = some (if nok x.2.2.2.1.length x.2.2.2.2.1.length x.2.2.2.2.2.1.length x.2.2.2.2.2.1 x.2.2.2.2.2.2[i] then (if dup x.2.2.2.2.2.2 i then 25 else 0) else 24):=by
 obtain ⟨m,rfl⟩:∃ m,fl = m + 1:=⟨fl - 1,by omega⟩
 have hd:=hb _ (List.getElem_mem hi);unfold glazierref14_draw;rw [lgetK hi,ob_some];generalize hq:x.2.2.2.2.2.2[i] = d at hd ⊢;simp only [bnd_eq,lenK];have no:∀ {z:Int},¬ nok x.2.2.2.1.length x.2.2.2.2.1.length x.2.2.2.2.2.1.length x.2.2.2.2.2.1 d -> some (24:Int) = some (if nok x.2.2.2.1.length x.2.2.2.2.1.length x.2.2.2.2.2.1.length x.2.2.2.2.2.1 d then z else 24):=fun h=>by rw [if_neg h]
 by_cases h1:d.1 < 0
 ·rw [lt_t h1,bite_t]; exact no fun k=>by have:=k.1; omega
 rw [lt_f (by omega),bite_f]
 by_cases h2:9999 < d.1
 ·rw [gt_t h2,bite_t]; exact no fun k=>by have:=k.1; omega
 rw [gt_f (by omega),bite_f]
 by_cases h3:d.2.1 < 0
 ·rw [lt_t h3,bite_t]; exact no fun k=>by have:=k.2.1; omega
 rw [lt_f (by omega),bite_f]
 by_cases h4:(x.2.2.2.2.2.1.length:Int) <= d.2.1
 ·rw [ge_t h4,bite_t]; exact no fun k=>by have:=k.2.1; omega
 rw [ge_f (by omega),bite_f]
 by_cases h5:d.2.2.1 < -1
 ·rw [lt_t h5,bite_t]; exact no fun k=>by have:=k.2.2.1; omega
 rw [lt_f (by omega),bite_f]
 by_cases h6:(x.2.2.2.2.1.length:Int) <= d.2.2.1
 ·rw [ge_t h6,bite_t]; exact no fun k=>by have:=k.2.2.1; omega
 have hlt:d.2.1.toNat < x.2.2.2.2.2.1.length:=by omega
 have hg:x.2.2.2.2.2.1.getD d.2.1.toNat [] = x.2.2.2.2.2.1[d.2.1.toNat]:=by rw [List.getD_eq_getElem?_getD,List.getElem?_eq_getElem hlt]; rfl
 rw [ge_f (by omega),bite_f,lgetI (k:=d.2.1.toNat) (by omega) hlt,ob_some,(asks_spec hfl (hP _ (List.getElem_mem hlt))).2,ob_some,hd]
 -- the rest,of a draw that has its names
 have rest:nok x.2.2.2.1.length x.2.2.2.2.1.length x.2.2.2.2.2.1.length x.2.2.2.2.2.1 d -> (obind (glazierref14_draw_l1 (m + 1) (m + 1) i 0 x.1 x.2.1 x.2.2.1.1 x.2.2.1.2.1 x.2.2.1.2.2.1 x.2.2.1.2.2.2 x.2.2.2.1 x.2.2.2.2.1 x.2.2.2.2.2.1 x.2.2.2.2.2.2 d.1 d.2.1 d.2.2.1 d.2.2.2.1 []) fun q23=>
   osum q23 (fun s24=>some 24) (fun r25=>
    obind (glazierref14_draw_l2 (m + 1) (m + 1) r25.1 0 r25.2.1 r25.2.2.1 r25.2.2.2.1 r25.2.2.2.2.1 r25.2.2.2.2.2.1 r25.2.2.2.2.2.2.1 r25.2.2.2.2.2.2.2.1 r25.2.2.2.2.2.2.2.2.1 r25.2.2.2.2.2.2.2.2.2.1 r25.2.2.2.2.2.2.2.2.2.2.1 r25.2.2.2.2.2.2.2.2.2.2.2.1 r25.2.2.2.2.2.2.2.2.2.2.2.2.1 r25.2.2.2.2.2.2.2.2.2.2.2.2.2.1 r25.2.2.2.2.2.2.2.2.2.2.2.2.2.2.1 r25.2.2.2.2.2.2.2.2.2.2.2.2.2.2.2.1) fun q26=>
    osum q26 (fun s27=>some 25) (fun r28=>
     obind (glazierref14_draw_l4 (m + 1) (m + 1) 0 r28.1 r28.2.1 r28.2.2.1 r28.2.2.2.1 r28.2.2.2.2.1) fun q29=>
     osum q29 (fun s30=>some 25) (fun r31=>some 0)))) = some (if nok x.2.2.2.1.length x.2.2.2.2.1.length x.2.2.2.2.2.1.length x.2.2.2.2.2.1 d then (if dup x.2.2.2.2.2.2 i then (25:Int) else 0) else 24):=fun hnok=>by
  rw [if_pos hnok,glazierref14_draw_l1,bnd_eq,bnd_eq,show F.lt 0 (F.len ([]:List (Int × Int × Int × Int))) = false from rfl,bite_f,ob_some];simp only [osum];have e:=scan (l:=x.2.2.2.2.2.2.take i) (c:=()) (d:=(d.1,(d.2.1,(d.2.2.1,(d.2.2.2.1,(([]:List (Int × Int × Int × Int)),())))))) (L:=fun n j=>glazierref14_draw_l2 (m + 1) n i j x.1 x.2.1 x.2.2.1.1 x.2.2.1.2.1 x.2.2.1.2.2.1 x.2.2.1.2.2.2 x.2.2.2.1 x.2.2.2.2.1 x.2.2.2.2.2.1 x.2.2.2.2.2.2 d.1 d.2.1 d.2.2.1 d.2.2.2.1 [])
   (step:=fun q K=>bite (F.eq q.1 d.1) (some (.inl ())) K) (p:=fun q=>q.1 = d.1)
   (fun n j=>by
    have hll:(x.2.2.2.2.2.2.take i).length = i:=by rw [List.length_take]; omega
    rw [hll];show bite (F.lt j i) (obind (F.get x.2.2.2.2.2.2 j) _) _ = _;by_cases hj:j < (i:Int)
    ·rw [lt_t hj,bite_t,bite_t];have:F.get x.2.2.2.2.2.2 j = F.get (x.2.2.2.2.2.2.take i) j:=by
      unfold F.get;split
      ·rw [List.getElem?_take,if_pos (by omega)]
      ·rfl
     rw [this];rfl
    ·rw [lt_f (by omega),bite_f,bite_f])
   (fun q _ hq K=>by rw [eq_t hq,bite_t]) (fun q _ hq K=>by rw [eq_f hq,bite_f]) (by rw [List.length_take]; omega) i (m + 1) 0 (by rw [List.length_take]; omega) (by omega) (fun j _ h=>by omega)
  simp only [show ((0:Nat):Int) = 0 from rfl] at e;rw [e];have hdup:(∃ y ∈ x.2.2.2.2.2.2.take i,y.1 = d.1) ↔ dup x.2.2.2.2.2.2 i:=by
   unfold dup;rw [List.getD_eq_getElem?_getD,List.getElem?_eq_getElem hi,<- hq];rfl
  by_cases hdu:dup x.2.2.2.2.2.2 i
  ·rw [if_pos (hdup.2 hdu),if_pos hdu,ob_some]
  ·rw [if_neg (fun k=>hdu (hdup.1 k)),if_neg hdu,ob_some]
   simp only;rw [glazierref14_draw_l4,bnd_eq,bnd_eq,show F.lt 0 (F.len ([]:List (Int × Int × Int × Int))) = false from rfl,bite_f,ob_some]
 by_cases h7:asks x.2.2.2.2.2.1[d.2.1.toNat]
 ·rw [decide_eq_true h7,bite_t];by_cases h8:d.2.2.1 = -1
  ·rw [eq_t h8,bite_t]; exact no fun k=>k.2.2.2.elim (by omega) fun k=>k (by rw [hg]; exact h7)
  ·rw [eq_f h8,bite_f];exact rest ⟨by omega,by omega,by omega,.inl (by omega)⟩
 ·rw [decide_eq_false h7,bite_f];exact rest ⟨by omega,by omega,by omega,.inr (by rw [hg]; exact h7)⟩
end Go.Proofs.YthnagpmnoncijaaGreat.G
namespace Go.Proofs.YthnagpmnoncijaaGreat.G
open Go Go.RowKit Go.Proofs.YthnagpmnoncijaaGreat.M
theorem frame_Render_i79_l1_z (fl n:Nat) (x0:Int) (x1:(List T1)) (x2:Int) (x3:Int) (x6:Int) (x7:Int) (x8:Int) (x9:Int) (x10:Int) (x11:Int) (x12:Int) (x13:Int) (x14:T2) (x15:T5) (x16:T4) (x17:(List T1)) (x18:Int) (x19:Int) (x20:Int) (x21:Int) (x22:Int) (x23:Int) (x24:Int) (x25:Int) (x26:T2) (x27:T5) (x28:T4) (x29:(List T1)) (x30:Int) (x31:Int) (x32:Int) (x33:Int) (x34:Int) (x35:Int) (x36:T2) (x37:T5) (x38:T4) (x39:(List T1)) (x40:Int) (x41:Int) (x42:Int) (x43:Int) (x44:Int) (x45:Int) (x46:T2) (x47:T5) (x48:T4) (x49:(List T1)) (x50:Int) (x51:Int) (x52:Int) (x53:Int) (x54:Int) (x55:Int) (x56:Int) (x57:Int) (x58:T2) (x59:T5) (x60:T4) (x61:(List T1)) (x62:Int) (x63:Int) (x64:Int) (x65:Int) (x66:(List T3)) (x67:Int) (x68:Int):frame_Render_i79_l1 fl (n + 1) x0 x1 x2 x3 0 0 x6 x7 x8 x9 x10 x11 x12 x13 x14 x15 x16 x17 x18 x19 x20 x21 x22 x23 x24 x25 x26 x27 x28 x29 x30 x31 x32 x33 x34 x35 x36 x37 x38 x39 x40 x41 x42 x43 x44 x45 x46 x47 x48 x49 x50 x51 x52 x53 x54 x55 x56 x57 x58 x59 x60 x61 x62 x63 x64 x65 x66 x67 x68 = some (x1,(x2,(x3,(x6,(x7,(x8,(x9,(x10,(x11,(x12,(x13,(x14,(x15,(x16,(x17,(x18,(x19,(x20,(x21,(x22,(x23,(x24,(x25,(x26,(x27,(x28,(x29,(x30,(x31,(x32,(x33,(x34,(x35,(x36,(x37,(x38,(x39,(x40,(x41,(x42,(x43,(x44,(x45,(x46,(x47,(x48,(x49,(x50,(x51,(x52,(x53,(x54,(x55,(x56,(x57,(x58,(x59,(x60,(x61,(x62,(x63,(x64,(x65,(x66,(x67,(x68,())))))))))))))))))))))))))))))))))))))))))))))))))))))))))))))))))):=rfl
theorem frame_Render_i79_l2_all (fl:Nat) (x0:(List T1)) (x3:Int) (x4:Int) (x5:Int) (x6:Int) (x7:Int) (x8:Int) (x9:Int) (x10:Int) (x11:T2) (x12:T5) (x13:T4) (x14:(List T1)) (x15:Int) (x16:Int) (x17:Int) (x18:Int) (x19:Int) (x20:Int) (x21:Int) (x22:Int) (x23:T2) (x24:T5) (x25:T4) (x26:(List T1)) (x27:Int) (x28:Int) (x29:Int) (x30:Int) (x31:Int) (x32:Int) (x33:T2) (x34:T5) (x35:T4) (x36:(List T1)) (x37:Int) (x38:Int) (x39:Int) (x40:Int) (x41:Int) (x42:Int) (x43:T2) (x44:T5) (x45:T4) (x46:(List T1)) (x47:Int) (x48:Int) (x49:Int) (x50:Int) (x51:Int) (x52:Int) (x53:Int) (x54:Int) (x55:T2) (x56:T5) (x57:T4) (x58:(List T1)) (x59:Int) (x60:Int) (x61:Int) (x62:Int) (x63:(List T3)) (x64:Int) (x65:Int) (hb:bare x0) (hs:x0.length <= 1000):∀ (k n i:Nat),i + k = x0.length -> k + 1 <= n -> frame_Render_i79_l2 (fl + 1) n x0 (x0.length:Int) (i:Int) x3 x4 x5 x6 x7 x8 x9 x10 x11 x12 x13 x14 x15 x16 x17 x18 x19 x20 x21 x22 x23 x24 x25 x26 x27 x28 x29 x30 x31 x32 x33 x34 x35 x36 x37 x38 x39 x40 x41 x42 x43 x44 x45 x46 x47 x48 x49 x50 x51 x52 x53 x54 x55 x56 x57 x58 x59 x60 x61 x62 x63 x64 x65 = some (x3,(x4,(x5,(x6,(x7,(x8,(x9,(x10,(x11,(x12,(x13,(x14,(x15,(x16,(x17,(x18,(x19,(x20,(x21,(x22,(x23,(x24,(x25,(x26,(x27,(x28,(x29,(x30,(x31,(x32,(x33,(x34,(x35,(x36,(x37,(x38,(x39,(x40,(x41,(x42,(x43,(x44,(x45,(x46,(x47,(x48,(x49,(x50,(x51,(x52,(x53,(x54,(x55,(x56,(x57,(x58,(x59,(x60,(x61,(x62,(x63,(x64,(x65,())))))))))))))))))))))))))))))))))))))))))))))))))))))))))))))))
 | 0,n,i,hk,hn=>by
  obtain ⟨n,rfl⟩:∃ m,n = m + 1:=⟨n - 1,by omega⟩
  rw [frame_Render_i79_l2,bnd_eq,lt_f (by omega),bite_f]
 | k + 1,n,i,hk,hn=>by
  obtain ⟨n,rfl⟩:∃ m,n = m + 1:=⟨n - 1,by omega⟩
  have hi:i < x0.length:=by omega
  rw [frame_Render_i79_l2,bnd_eq,lt_t (by omega),bite_t,lgetK hi,ob_some,bnd_eq,show F.len (x0[i]).2.2.2.2 = 0 by rw [hb _ (List.getElem_mem hi)]; rfl,frame_Render_i79_l1_z,ob_some,bnd_eq]
  have e:F.add .i64 (i:Int) 1 = ((i + 1:Nat):Int):=by rw [addI (by omega)]; rfl
  have h:=frame_Render_i79_l2_all fl x0 x3 x4 x5 x6 x7 x8 x9 x10 x11 x12 x13 x14 x15 x16 x17 x18 x19 x20 x21 x22 x23 x24 x25 x26 x27 x28 x29 x30 x31 x32 x33 x34 x35 x36 x37 x38 x39 x40 x41 x42 x43 x44 x45 x46 x47 x48 x49 x50 x51 x52 x53 x54 x55 x56 x57 x58 x59 x60 x61 x62 x63 x64 x65 hb hs k n (i + 1) (by omega) (by omega)
  rw [<- e] at h;exact h
theorem frame_Render_i79_l5_z (fl n:Nat) (x0:Int) (x1:(List T1)) (x2:Int) (x3:Int) (x6:Int) (x7:Int) (x8:(List T3)) (x9:Int) (x10:Int) (x11:Int) (x12:Int) (x13:Int) (x14:Int) (x15:Int) (x16:Int) (x17:Int) (x18:T2) (x19:(List T1)) (x20:Int) (x21:Int) (x22:Int) (x23:Int) (x24:Int) (x25:Int) (x26:Int) (x27:Int) (x28:Int) (x29:Int) (x30:Int) (x31:Int) (x32:Int) (x33:Int) (x34:Int) (x35:Int) (x36:Int) (x37:Int) (x38:Int) (x39:Int) (x40:Int) (x41:Int) (x42:Int) (x43:Int) (x44:Int) (x45:Int) (x46:Int) (x47:T2) (x48:(List T1)) (x49:Int) (x50:Int) (x51:Int) (x52:Int) (x53:Int) (x54:Int) (x55:Int) (x56:Int) (x57:T2) (x58:(List T1)) (x59:Int) (x60:Int) (x61:Int) (x62:Int) (x63:(List T3)) (x64:Int) (x65:Int) (x66:Int):frame_Render_i79_l5 fl (n + 1) x0 x1 x2 x3 0 0 x6 x7 x8 x9 x10 x11 x12 x13 x14 x15 x16 x17 x18 x19 x20 x21 x22 x23 x24 x25 x26 x27 x28 x29 x30 x31 x32 x33 x34 x35 x36 x37 x38 x39 x40 x41 x42 x43 x44 x45 x46 x47 x48 x49 x50 x51 x52 x53 x54 x55 x56 x57 x58 x59 x60 x61 x62 x63 x64 x65 x66 = some (x1,(x2,(x3,(x6,(x7,(x8,(x9,(x10,(x11,(x12,(x13,(x14,(x15,(x16,(x17,(x18,(x19,(x20,(x21,(x22,(x23,(x24,(x25,(x26,(x27,(x28,(x29,(x30,(x31,(x32,(x33,(x34,(x35,(x36,(x37,(x38,(x39,(x40,(x41,(x42,(x43,(x44,(x45,(x46,(x47,(x48,(x49,(x50,(x51,(x52,(x53,(x54,(x55,(x56,(x57,(x58,(x59,(x60,(x61,(x62,(x63,(x64,(x65,(x66,())))))))))))))))))))))))))))))))))))))))))))))))))))))))))))))))):=rfl
theorem frame_Render_i79_l6_all (fl:Nat) (x0:(List T1)) (x3:Int) (x4:Int) (x5:(List T3)) (x6:Int) (x7:Int) (x8:Int) (x9:Int) (x10:Int) (x11:Int) (x12:Int) (x13:Int) (x14:Int) (x15:T2) (x16:(List T1)) (x17:Int) (x18:Int) (x19:Int) (x20:Int) (x21:Int) (x22:Int) (x23:Int) (x24:Int) (x25:Int) (x26:Int) (x27:Int) (x28:Int) (x29:Int) (x30:Int) (x31:Int) (x32:Int) (x33:Int) (x34:Int) (x35:Int) (x36:Int) (x37:Int) (x38:Int) (x39:Int) (x40:Int) (x41:Int) (x42:Int) (x43:Int) (x44:T2) (x45:(List T1)) (x46:Int) (x47:Int) (x48:Int) (x49:Int) (x50:Int) (x51:Int) (x52:Int) (x53:Int) (x54:T2) (x55:(List T1)) (x56:Int) (x57:Int) (x58:Int) (x59:Int) (x60:(List T3)) (x61:Int) (x62:Int) (x63:Int) (hb:bare x0) (hs:x0.length <= 1000):∀ (k n i:Nat),i + k = x0.length -> k + 1 <= n -> frame_Render_i79_l6 (fl + 1) n x0 (x0.length:Int) (i:Int) x3 x4 x5 x6 x7 x8 x9 x10 x11 x12 x13 x14 x15 x16 x17 x18 x19 x20 x21 x22 x23 x24 x25 x26 x27 x28 x29 x30 x31 x32 x33 x34 x35 x36 x37 x38 x39 x40 x41 x42 x43 x44 x45 x46 x47 x48 x49 x50 x51 x52 x53 x54 x55 x56 x57 x58 x59 x60 x61 x62 x63 = some (x3,(x4,(x5,(x6,(x7,(x8,(x9,(x10,(x11,(x12,(x13,(x14,(x15,(x16,(x17,(x18,(x19,(x20,(x21,(x22,(x23,(x24,(x25,(x26,(x27,(x28,(x29,(x30,(x31,(x32,(x33,(x34,(x35,(x36,(x37,(x38,(x39,(x40,(x41,(x42,(x43,(x44,(x45,(x46,(x47,(x48,(x49,(x50,(x51,(x52,(x53,(x54,(x55,(x56,(x57,(x58,(x59,(x60,(x61,(x62,(x63,())))))))))))))))))))))))))))))))))))))))))))))))))))))))))))))
 | 0,n,i,hk,hn=>by
  obtain ⟨n,rfl⟩:∃ m,n = m + 1:=⟨n - 1,by omega⟩
  rw [frame_Render_i79_l6,bnd_eq,lt_f (by omega),bite_f]
 | k + 1,n,i,hk,hn=>by
  obtain ⟨n,rfl⟩:∃ m,n = m + 1:=⟨n - 1,by omega⟩
  have hi:i < x0.length:=by omega
  rw [frame_Render_i79_l6,bnd_eq,lt_t (by omega),bite_t,lgetK hi,ob_some,bnd_eq,show F.len (x0[i]).2.2.2.2 = 0 by rw [hb _ (List.getElem_mem hi)]; rfl,frame_Render_i79_l5_z,ob_some,bnd_eq]
  have e:F.add .i64 (i:Int) 1 = ((i + 1:Nat):Int):=by rw [addI (by omega)]; rfl
  have h:=frame_Render_i79_l6_all fl x0 x3 x4 x5 x6 x7 x8 x9 x10 x11 x12 x13 x14 x15 x16 x17 x18 x19 x20 x21 x22 x23 x24 x25 x26 x27 x28 x29 x30 x31 x32 x33 x34 x35 x36 x37 x38 x39 x40 x41 x42 x43 x44 x45 x46 x47 x48 x49 x50 x51 x52 x53 x54 x55 x56 x57 x58 x59 x60 x61 x62 x63 hb hs k n (i + 1) (by omega) (by omega)
  rw [<- e] at h;exact h
theorem pixel_some (fl:Nat) (c:Int × Int × Int × Int):∃ z,resolve_Pixel fl c ((false,((0,(0,(0,0))),(0,(0,(0,0))))),((false,((0,(0,(0,0))),(0,(0,(0,0))))),((false,((0,(0,(0,0))),(0,(0,(0,0))))),(false,((0,(0,(0,0))),(0,(0,(0,0)))))))) [] = some z:=⟨_,rfl⟩
theorem on_some (a:Int × Int) (x y:Int):∃ z,prepass_Buffer__on a x y = some z:=by
 unfold prepass_Buffer__on;simp only [bnd_eq];cases F.ge x 0 <;> cases F.lt x a.1 <;> cases F.ge y 0 <;> exact ⟨_,rfl⟩
theorem at_some (a:Int × Int × Int × Int) (x y:Int):∃ z,abuffer_tile__at a x y = some z:=by
 unfold abuffer_tile__at;simp only [bnd_eq];cases F.ge x a.1 <;> cases F.lt x a.2.2.1 <;> cases F.ge y a.2.1 <;> exact ⟨_,rfl⟩
theorem feq_self (a:Int):F.eq a a = true:=decide_eq_true rfl
theorem both_self:F.both true true = true:=rfl
theorem frame_Render_i82_l3_row (fl:Nat) (x0:Int) (x1:Int) (x2:Int) (x3:Int) (x5:T3) (x6:Int) (x7:Int) (x8:Int) (x9:Int) (x10:Int) (x11:Int) (x12:(List T3)) (x13:Int) (x14:Int) (x15:Int) (x16:Int) (x17:Int) (x18:Int) (x19:Int) (x20:Int) (x21:Int) (x22:Int) (x23:Int) (x24:Int) (x25:Int) (x26:Int) (x27:Int) (x28:Int) (x29:Int) (x30:Int) (x31:Int) (x32:Int) (x33:Int) (x34:Int) (x35:Int) (x36:Int) (x37:Int) (x38:Int) (x39:T2) (x40:(List T1)) (x41:Int) (x42:Int) (x43:Int) (x44:Int) (x45:Int) (x46:Int) (x47:Int) (x48:Int) (x49:T2) (x50:(List T1)) (x51:Int) (x52:Int) (x53:Int) (x54:Int) (x56:Int) (x57:Int) (x58:Int) (hw:1 <= x43 /\ x43 <= 64) (hy:0 <= x3 /\ x3 < 64) (hx2:x2 <= x43):∀ (k n:Nat) (x4:Int) (x55:(List T3)),(x2 - x4).toNat <= k -> k + 1 <= n -> 0 <= x4 -> x3 * x43 + x43 <= (x55.length:Int) -> ∃ px:(List T3),px.length = x55.length /\ frame_Render_i82_l3 fl n x0 x1 x2 x3 x4 x5 x6 x7 x8 x9 x10 x11 x12 x13 x14 x15 x16 x17 x18 x19 x20 x21 x22 x23 x24 x25 x26 x27 x28 x29 x30 x31 x32 x33 x34 x35 x36 x37 x38 x39 x40 x41 x42 x43 x44 x45 x46 x47 x48 x49 x50 x51 x52 x53 x54 x55 x56 x57 x58 = some (x0,(x1,(x2,(x3,(x5,(x6,(x7,(x8,(x9,(x10,(x11,(x12,(x13,(x14,(x15,(x16,(x17,(x18,(x19,(x20,(x21,(x22,(x23,(x24,(x25,(x26,(x27,(x28,(x29,(x30,(x31,(x32,(x33,(x34,(x35,(x36,(x37,(x38,(x39,(x40,(x41,(x42,(x43,(x44,(x45,(x46,(x47,(x48,(x49,(x50,(x51,(x52,(x53,(x54,(px,(x56,(x57,(x58,()))))))))))))))))))))))))))))))))))))))))))))))))))))))))))
 | 0,n,x4,x55,hk,hn,h0,hl=>by
  obtain ⟨n,rfl⟩:∃ m,n = m + 1:=⟨n - 1,by omega⟩
  refine ⟨x55,rfl,?_⟩;rw [frame_Render_i82_l3,bnd_eq,lt_f (by omega),bite_f]
 | k + 1,n,x4,x55,hk,hn,h0,hl=>by
  obtain ⟨n,rfl⟩:∃ m,n = m + 1:=⟨n - 1,by omega⟩
  by_cases hc:x4 < x2
  case neg=>
   refine ⟨x55,rfl,?_⟩;rw [frame_Render_i82_l3,bnd_eq,lt_f (by omega),bite_f]
  obtain ⟨c,hcol⟩:=pixel_some fl (x45,(x46,(x47,x48)));obtain ⟨on,hon⟩:=on_some (x41,x42) x4 x3;obtain ⟨at',hat⟩:=at_some (x20,(x21,(x22,x23))) x4 x3;have hm:0 <= x3 * x43 /\ x3 * x43 <= 64 * 64:=⟨Int.mul_nonneg (by omega) (by omega),Int.mul_le_mul (by omega) (by omega) (by omega) (by omega)⟩
  have hlt:(x3 * x43 + x4).toNat < x55.length:=by omega
  have hh:F.has x55 (x3 * x43 + x4) = true:=by unfold F.has; rw [decide_eq_true (by omega),decide_eq_true (by omega)]; rfl
  obtain ⟨px,hl2,e⟩:=frame_Render_i82_l3_row fl x0 x1 x2 x3 x5 x6 x7 x8 x9 x10 x11 x12 x13 x14 x15 x16 x17 x18 x19 x20 x21 x22 x23 x24 x25 x26 x27 x28 x29 x30 x31 x32 x33 x34 x35 x36 x37 x38 x39 x40 x41 x42 x43 x44 x45 x46 x47 x48 x49 x50 x51 x52 x53 x54 x56 x57 x58 hw hy hx2 k n (x4 + 1) (F.put x55 (x3 * x43 + x4) c) (by omega) (by omega) (by omega) (by unfold F.put; rw [List.length_set]; exact hl)
  refine ⟨px,by rw [hl2]; unfold F.put; rw [List.length_set],?_⟩
  rw [frame_Render_i82_l3,bnd_eq,lt_t hc,bite_t,hon,ob_some,bnd_eq,bnd_eq,mulI (by omega),addI (by omega),hat,ob_some,bnd_eq]
  simp only [feq_self,both_self];cases F.not at'.2
  ·rw [bite_f,bgd_t,hcol,ob_some,bgd_t,hh,bgd_t,lgetI (k:=(x3 * x43 + x4).toNat) (by omega) hlt,ob_some,bnd_eq,addI (by omega)]
   exact e
  ·rw [bite_t,bgd_t,hcol,ob_some,bgd_t,hh,bgd_t,lgetI (k:=(x3 * x43 + x4).toNat) (by omega) hlt,ob_some,bnd_eq,addI (by omega)]
   exact e
theorem frame_Render_i82_l4_rows (fl:Nat) (hfl:70 <= fl) (x0:Int) (x1:Int) (x2:Int) (x4:T3) (x5:Int) (x6:Int) (x7:Int) (x8:Int) (x9:Int) (x10:Int) (x11:(List T3)) (x12:Int) (x13:Int) (x14:Int) (x15:Int) (x16:Int) (x17:Int) (x18:Int) (x19:Int) (x20:Int) (x21:Int) (x22:Int) (x23:Int) (x24:Int) (x25:Int) (x26:Int) (x27:Int) (x28:Int) (x29:Int) (x30:Int) (x31:Int) (x32:Int) (x33:Int) (x34:Int) (x35:Int) (x36:Int) (x37:Int) (x38:T2) (x39:(List T1)) (x40:Int) (x41:Int) (x42:Int) (x43:Int) (x44:Int) (x45:Int) (x46:Int) (x47:Int) (x48:T2) (x49:(List T1)) (x50:Int) (x51:Int) (x52:Int) (x53:Int) (x55:Int) (x56:Int) (x57:Int) (hw:1 <= x42 /\ x42 <= 64) (hx:0 <= x1 /\ x2 <= x42) (hh:x0 <= 64):∀ (k n:Nat) (x3:Int) (x54:(List T3)),(x0 - x3).toNat <= k -> k + 1 <= n -> 0 <= x3 -> x0 * x42 <= (x54.length:Int) -> ∃ px:(List T3),px.length = x54.length /\ frame_Render_i82_l4 fl n x0 x1 x2 x3 x4 x5 x6 x7 x8 x9 x10 x11 x12 x13 x14 x15 x16 x17 x18 x19 x20 x21 x22 x23 x24 x25 x26 x27 x28 x29 x30 x31 x32 x33 x34 x35 x36 x37 x38 x39 x40 x41 x42 x43 x44 x45 x46 x47 x48 x49 x50 x51 x52 x53 x54 x55 x56 x57 = some (x4,(x5,(x6,(x7,(x8,(x9,(x10,(x11,(x12,(x13,(x14,(x15,(x16,(x17,(x18,(x19,(x20,(x21,(x22,(x23,(x24,(x25,(x26,(x27,(x28,(x29,(x30,(x31,(x32,(x33,(x34,(x35,(x36,(x37,(x38,(x39,(x40,(x41,(x42,(x43,(x44,(x45,(x46,(x47,(x48,(x49,(x50,(x51,(x52,(x53,(px,(x55,(x56,(x57,()))))))))))))))))))))))))))))))))))))))))))))))))))))))
 | 0,n,x3,x54,hk,hn,h0,hl=>by
  obtain ⟨n,rfl⟩:∃ m,n = m + 1:=⟨n - 1,by omega⟩
  refine ⟨x54,rfl,?_⟩;rw [frame_Render_i82_l4,bnd_eq,lt_f (by omega),bite_f]
 | k + 1,n,x3,x54,hk,hn,h0,hl=>by
  obtain ⟨n,rfl⟩:∃ m,n = m + 1:=⟨n - 1,by omega⟩
  by_cases hc:x3 < x0
  case neg=>
   refine ⟨x54,rfl,?_⟩;rw [frame_Render_i82_l4,bnd_eq,lt_f (by omega),bite_f]
  have hm:(x3 + 1) * x42 <= x0 * x42:=Int.mul_le_mul_of_nonneg_right (by omega) (by omega)
  rw [Int.add_mul,Int.one_mul] at hm;obtain ⟨px1,hl1,e1⟩:=frame_Render_i82_l3_row fl x0 x1 x2 x3 x4 x5 x6 x7 x8 x9 x10 x11 x12 x13 x14 x15 x16 x17 x18 x19 x20 x21 x22 x23 x24 x25 x26 x27 x28 x29 x30 x31 x32 x33 x34 x35 x36 x37 x38 x39 x40 x41 x42 x43 x44 x45 x46 x47 x48 x49 x50 x51 x52 x53 x55 x56 x57 hw ⟨h0,by omega⟩ hx.2 64 fl x1 x54 (by omega) (by omega) hx.1 (by omega)
  obtain ⟨px,hl2,e⟩:=frame_Render_i82_l4_rows fl hfl x0 x1 x2 x4 x5 x6 x7 x8 x9 x10 x11 x12 x13 x14 x15 x16 x17 x18 x19 x20 x21 x22 x23 x24 x25 x26 x27 x28 x29 x30 x31 x32 x33 x34 x35 x36 x37 x38 x39 x40 x41 x42 x43 x44 x45 x46 x47 x48 x49 x50 x51 x52 x53 x55 x56 x57 hw hx hh k n (x3 + 1) px1 (by omega) (by omega) (by omega) (by omega)
  refine ⟨px,by rw [hl2,hl1],?_⟩
  rw [frame_Render_i82_l4,bnd_eq,lt_t hc,bite_t,e1,ob_some,bnd_eq];dsimp only;rw [addI (by omega)]
  exact e
end Go.Proofs.YthnagpmnoncijaaGreat.G
namespace Go.Proofs.YthnagpmnoncijaaGreat.G
open Go Go.RowKit Go.Proofs.YthnagpmnoncijaaGreat.M
theorem nilE_same {β:Type} (n:Int) (x:Option β):nilE n x x = x:=by
 unfold nilE either;split
 ·rw [if_pos rfl]
 ·rfl
def onScr (w h:Int) (t:Int × Int × Int × Int):Prop:=0 <= t.1 /\ 0 <= t.2.1 /\ t.2.2.1 <= w /\ t.2.2.2 <= h
theorem tiles_row (fl:Nat) (w h s y:Int) (hs:1 <= s /\ s <= 64) (hw:1 <= w /\ w <= 64) (hh:1 <= h /\ h <= 64) (hy:0 <= y /\ y < h):∀ (k n:Nat) (l:List (Int × Int × Int × Int)) (x:Int),(w - x).toNat <= k -> k + 1 <= n -> 0 <= x -> l.length + k <= 10000 -> (∀ t ∈ l,onScr w h t) ->
  ∃ l',l'.length <= l.length + k /\ (∀ t ∈ l',onScr w h t) /\ frame_Tiles_l1 fl n w h s l y x = some (w,(h,(s,(l',(y,())))))
 | 0,n,l,x,hk,hn,h0,hl,hg=>by
  obtain ⟨n,rfl⟩:∃ m,n = m + 1:=⟨n - 1,by omega⟩
  refine ⟨l,by omega,hg,?_⟩
  rw [frame_Tiles_l1,bnd_eq,lt_f (by omega),bite_f]
 | k + 1,n,l,x,hk,hn,h0,hl,hg=>by
  obtain ⟨n,rfl⟩:∃ m,n = m + 1:=⟨n - 1,by omega⟩
  by_cases hc:x < w
  case neg=>
   refine ⟨l,by omega,hg,?_⟩
   rw [frame_Tiles_l1,bnd_eq,lt_f (by omega),bite_f]
  obtain ⟨l',h1,h2,e⟩:=tiles_row fl w h s y hs hw hh hy k n (l ++ [(x,(y,(F.min (F.add .i64 x s) w,F.min (F.add .i64 y s) h)))]) (x + s) (by omega) (by omega) (by omega) (by simp; omega) (fun t ht=>by
   rcases List.mem_append.1 ht with ht | ht
   ·exact hg t ht
   ·rw [List.mem_singleton.1 ht,f_min,f_min]; exact ⟨h0,hy.1,Int.min_le_right _ _,Int.min_le_right _ _⟩)
  refine ⟨l',by simp at h1; omega,h2,?_⟩
  rw [frame_Tiles_l1,bnd_eq,lt_t hc,bite_t,bnd_eq,bnd_eq,bnd_eq,bnd_eq,appOk_t (by simp; omega) (by decide),bgd_t,bnd_eq,bnd_eq,appK,addI (a:=x) (by omega)]
  rw [addI (a:=x) (by omega)] at e
  exact e
theorem tiles_rows (fl:Nat) (hfl:70 <= fl) (w h s:Int) (hs:1 <= s /\ s <= 64) (hw:1 <= w /\ w <= 64) (hh:1 <= h /\ h <= 64):∀ (k n:Nat) (l:List (Int × Int × Int × Int)) (y:Int),(h - y).toNat <= k -> k + 1 <= n -> 0 <= y -> l.length + 64 * k <= 5000 -> (∀ t ∈ l,onScr w h t) ->
  ∃ l',l'.length <= l.length + 64 * k /\ (∀ t ∈ l',onScr w h t) /\ frame_Tiles_l2 fl n w h s l y = some (l',())
 | 0,n,l,y,hk,hn,h0,hl,hg=>by
  obtain ⟨n,rfl⟩:∃ m,n = m + 1:=⟨n - 1,by omega⟩
  refine ⟨l,by omega,hg,?_⟩
  rw [frame_Tiles_l2,bnd_eq,lt_f (by omega),bite_f]
 | k + 1,n,l,y,hk,hn,h0,hl,hg=>by
  obtain ⟨n,rfl⟩:∃ m,n = m + 1:=⟨n - 1,by omega⟩
  by_cases hc:y < h
  case neg=>
   refine ⟨l,by omega,hg,?_⟩
   rw [frame_Tiles_l2,bnd_eq,lt_f (by omega),bite_f]
  obtain ⟨l1,h1,g1,e1⟩:=tiles_row fl w h s y hs hw hh ⟨h0,hc⟩ 64 fl l 0 (by omega) (by omega) (by omega) (by omega) hg
  obtain ⟨l',h2,g2,e⟩:=tiles_rows fl hfl w h s hs hw hh k n l1 (y + s) (by omega) (by omega) (by omega) (by omega) g1
  refine ⟨l',by omega,g2,?_⟩
  rw [frame_Tiles_l2,bnd_eq,lt_t hc,bite_t,e1,ob_some,bnd_eq];dsimp only;rw [addI (by omega)]
  exact e
theorem tiles_spec (fl:Nat) (hfl:70 <= fl) (w h s:Int) (hs:1 <= s /\ s <= 64) (hw:1 <= w /\ w <= 64) (hh:1 <= h /\ h <= 64):∃ l,l.length <= 4096 /\ (∀ t ∈ l,onScr w h t) /\ frame_Tiles fl w h s = some l:=by
 obtain ⟨l,h1,g,e⟩:=tiles_rows fl hfl w h s hs hw hh 64 fl [] 0 (by omega) (by omega) (by omega) (by simp) (by simp)
 refine ⟨l,by simpa using h1,g,?_⟩
 unfold frame_Tiles;rw [e,ob_some]
theorem render_tiles (fl:Nat) (hfl:1100 <= fl) (x0:(List T3)) (x3:Int) (x4:Int) (x5:Int) (x6:Int) (x7:Int) (x8:Int) (x9:T2) (x10:(List T1)) (x11:Int) (x12:Int) (x13:Int) (x14:Int) (x15:Int) (x16:Int) (x17:Int) (x18:Int) (x19:T2) (x20:(List T1)) (x21:Int) (x22:Int) (x23:Int) (x24:Int) (hb:bare x10) (hbl:x10.length <= 1000) (hl:x0.length <= 5000) (H:Int) (hH:H <= 64) (hw:1 <= x13 /\ x13 <= 64) (ht:∀ t ∈ x0,onScr x13 H t):∀ (k n i:Nat) (x25:(List T3)) (x26:Int) (x27:Int) (x28:Int),i + k = x0.length -> k + 1 <= n -> H * x13 <= (x25.length:Int) ->
  ∃ px p l r,px.length = x25.length /\ frame_Render_l1 (fl + 1) n x0 (x0.length:Int) (i:Int) x3 x4 x5 x6 x7 x8 x9 x10 x11 x12 x13 x14 x15 x16 x17 x18 x19 x20 x21 x22 x23 x24 x25 x26 x27 x28 = some (x3,(x4,(x5,(x6,(x7,(x8,(x9,(x10,(x11,(x12,(x13,(x14,(x15,(x16,(x17,(x18,(x19,(x20,(x21,(x22,(x23,(x24,(px,(p,(l,(r,()))))))))))))))))))))))))))
 | 0,n,i,x25,x26,x27,x28,hk,hn,hpx=>by
  obtain ⟨n,rfl⟩:∃ m,n = m + 1:=⟨n - 1,by omega⟩
  refine ⟨x25,x26,x27,x28,rfl,?_⟩;rw [frame_Render_l1,bnd_eq,lt_f (by omega),bite_f]
 | k + 1,n,i,x25,x26,x27,x28,hk,hn,hpx=>by
  obtain ⟨n,rfl⟩:∃ m,n = m + 1:=⟨n - 1,by omega⟩
  have hi:i < x0.length:=by omega
  obtain ⟨t1,t2,t3,t4⟩:=ht _ (List.getElem_mem hi);have hm:x0[i].2.2.2 * x13 <= H * x13:=Int.mul_le_mul_of_nonneg_right t4 (by omega)
  have e6:=frame_Render_i79_l6_all fl x10 (i:Int) (i:Int) x0 (x0.length:Int) (i:Int) (i:Int) x3 x4 x5 x6 x7 x8 x9 x10 (x0[i].1) (x0[i].2.1) (x0[i].2.2.1) (x0[i].2.2.2) (x0[i].1) (x0[i].2.1) (x0[i].2.2.1) (x0[i].2.2.2) (x0[i].1) (x0[i].2.1) (x0[i].2.2.1) (x0[i].2.2.2) (F.min (F.max x21 0) 65536) (x0[i].1) (x0[i].2.1) (x0[i].2.2.1) (x0[i].2.2.2) (x0[i].1) (x0[i].2.1) (x0[i].2.2.1) (x0[i].2.2.2) x3 x4 x5 x6 x7 x8 x9 x10 x11 x12 x13 x14 x15 x16 x17 x18 x19 x20 x21 x22 x23 x24 x25 x26 x27 x28 hb hbl x10.length (fl + 1) 0 (by omega) (by omega)
  rw [show ((0:Nat):Int) = 0 from rfl] at e6;obtain ⟨px,hpl,e4⟩:=frame_Render_i82_l4_rows (fl + 1) (by omega) (x0[i].2.2.2) (x0[i].1) (x0[i].2.2.1) (x0[i].2.1,(x0[i].2.2.2,(x0[i].1,x0[i].2.2.1))) (i:Int) (x0[i].1) (x0[i].2.1) (x0[i].2.2.1) (x0[i].2.2.2) (i:Int) x0 (x0.length:Int) (i:Int) (i:Int) (x0[i].1) (x0[i].2.1) (x0[i].2.2.1) (x0[i].2.2.2) (x0[i].1) (x0[i].2.1) (x0[i].2.2.1) (x0[i].2.2.2) (F.min (F.max x21 0) 65536) (x0[i].1) (x0[i].2.1) (x0[i].2.2.1) (x0[i].2.2.2) (x0[i].1) (x0[i].2.1) (x0[i].2.2.1) (x0[i].2.2.2) x3 x4 x5 x6 x7 x8 x9 x10 x11 x12 x13 x14 x15 x16 x17 x18 x19 x20 x21 x22 x23 x24 x26 x27 x28 hw ⟨t1,t3⟩ (by omega) 64 (fl + 1) x0[i].2.1 x25 (by omega) (by omega) t2 (by omega)
  obtain ⟨px',p,l,r,hl',e⟩:=render_tiles fl hfl x0 x3 x4 x5 x6 x7 x8 x9 x10 x11 x12 x13 x14 x15 x16 x17 x18 x19 x20 x21 x22 x23 x24 hb hbl hl H hH hw ht k n (i + 1) px (F.max x26 1) (F.max x27 0) (F.add .i64 x28 0) (by omega) (by omega) (by omega)
  refine ⟨px',p,l,r,by rw [hl',hpl],?_⟩
  rw [frame_Render_l1,bnd_eq,lt_t (by omega),bite_t,lgetK hi,ob_some,nilE_same,show pool_New x21 = some (F.min (F.max x21 0) 65536,()) from rfl,ob_some,bnd_eq,lenK]
  refine (congrArg (fun z=>obind z _) e6).trans ?_
  rw [ob_some];dsimp only;rw [show ∀ t:Int × Int × Int × Int,frame_pixels t = some (t.2.1,(t.2.2.2,(t.1,t.2.2.1))) from fun _=>rfl,ob_some]
  refine (congrArg (fun z=>obind z _) e4).trans ?_
  rw [ob_some];have ei:F.add .i64 (i:Int) 1 = ((i + 1:Nat):Int):=by rw [addI (by omega)]; rfl
  rw [<- ei] at e;dsimp only;simp only [bnd_eq,feq_self,bgd_t];exact e
end Go.Proofs.YthnagpmnoncijaaGreat.G
namespace Go.Proofs.YthnagpmnoncijaaGreat.G
open Go Go.RowKit Go.Proofs.YthnagpmnoncijaaGreat.M
def fst0 (g:Nat -> Int):Nat -> Nat -> Int
 | 0,_=>0
 | k + 1,i=>if g i = 0 then fst0 g k (i + 1) else g i
theorem first {L:Nat -> Int -> Option ((Int × Unit) ⊕ Unit)} {m:Nat} {g:Nat -> Int} (hL:∀ n (i:Nat),i < m -> L (n + 1) i = if g i = 0 then L n ((i + 1:Nat):Int) else some (.inl (g i,()))) (hE:∀ n,L (n + 1) m = some (.inr ())) :
  ∀ (k n i:Nat),i + k = m -> k + 1 <= n -> L n i = if fst0 g k i = 0 then some (.inr ()) else some (.inl (fst0 g k i,()))
 | 0,n,i,hk,hn=>by
  obtain ⟨n,rfl⟩:∃ m,n = m + 1:=⟨n - 1,by omega⟩
  obtain rfl:i = m:=by omega
  rw [hE,fst0,if_pos rfl]
 | k + 1,n,i,hk,hn=>by
  obtain ⟨n,rfl⟩:∃ m,n = m + 1:=⟨n - 1,by omega⟩
  rw [hL n i (by omega),fst0]
  by_cases h:g i = 0
  ·rw [if_pos h,if_pos h]; exact first hL hE k n (i + 1) (by omega) (by omega)
  ·rw [if_neg h,if_neg h,if_neg h]
def scr (x:Sc):Prop:=(1 <= x.1 /\ x.1 <= 64) /\ 1 <= x.2.1 /\ x.2.1 <= 64
def bok (c:Int × Int × Int × Int):Prop:=c.1 <= c.2.2.2 /\ c.2.1 <= c.2.2.2 /\ c.2.2.1 <= c.2.2.2
instance (c:Int × Int × Int × Int):Decidable (bok c):=by unfold bok; infer_instance
def few (x:Sc):Prop:=x.2.2.2.1.length <= 64 /\ x.2.2.2.2.1.length <= 4 /\ x.2.2.2.2.2.1.length <= 4 /\ x.2.2.2.2.2.2.length <= 8
instance (x:Sc):Decidable (few x):=by unfold few; infer_instance
noncomputable def dres (x:Sc) (i:Nat):Int:=if nok x.2.2.2.1.length x.2.2.2.2.1.length x.2.2.2.2.2.1.length x.2.2.2.2.2.1 (x.2.2.2.2.2.2.getD i (0,0,0,false,[])) then (if dup x.2.2.2.2.2.2 i then 25 else 0) else 24
open Classical in
noncomputable def chk (x:Sc):Int:=
 if scr x then (if bok x.2.2.1 then (if few x then (if ∃ v ∈ x.2.2.2.1,¬ vok v then 21 else if ∃ t ∈ x.2.2.2.2.1,¬ tok t then 22 else if ∃ p ∈ x.2.2.2.2.2.1,¬ prog p then 23 else fst0 (dres x) x.2.2.2.2.2.2.length 0) else 26) else 1) else 20
theorem chk_scr {x:Sc} (h:¬ scr x):chk x = 20:=by unfold chk; rw [if_neg h]
theorem chk_bok {x:Sc} (h:scr x) (h1:¬ bok x.2.2.1):chk x = 1:=by unfold chk; rw [if_pos h,if_neg h1]
theorem chk_few {x:Sc} (h:scr x) (h1:bok x.2.2.1) (h2:¬ few x):chk x = 26:=by unfold chk; rw [if_pos h,if_pos h1,if_neg h2]
theorem chk_v {x:Sc} (h:scr x) (h1:bok x.2.2.1) (h2:few x) (h3:∃ v ∈ x.2.2.2.1,¬ vok v):chk x = 21:=by unfold chk; rw [if_pos h,if_pos h1,if_pos h2,if_pos h3]
theorem chk_t {x:Sc} (h:scr x) (h1:bok x.2.2.1) (h2:few x) (h3:¬ ∃ v ∈ x.2.2.2.1,¬ vok v) (h4:∃ t ∈ x.2.2.2.2.1,¬ tok t):chk x = 22:=by unfold chk; rw [if_pos h,if_pos h1,if_pos h2,if_neg h3,if_pos h4]
theorem chk_p {x:Sc} (h:scr x) (h1:bok x.2.2.1) (h2:few x) (h3:¬ ∃ v ∈ x.2.2.2.1,¬ vok v) (h4:¬ ∃ t ∈ x.2.2.2.2.1,¬ tok t) (h5:∃ p ∈ x.2.2.2.2.2.1,¬ prog p):chk x = 23:=by unfold chk; rw [if_pos h,if_pos h1,if_pos h2,if_neg h3,if_neg h4,if_pos h5]
theorem chk_d {x:Sc} (h:scr x) (h1:bok x.2.2.1) (h2:few x) (h3:¬ ∃ v ∈ x.2.2.2.1,¬ vok v) (h4:¬ ∃ t ∈ x.2.2.2.2.1,¬ tok t) (h5:¬ ∃ p ∈ x.2.2.2.2.2.1,¬ prog p):chk x = fst0 (dres x) x.2.2.2.2.2.2.length 0:=by unfold chk; rw [if_pos h,if_pos h1,if_pos h2,if_neg h3,if_neg h4,if_neg h5]
def small (x:Sc):Prop:=bare x.2.2.2.2.2.2 /\ x.2.2.2.1.length <= 100 /\ x.2.2.2.2.1.length <= 100 /\ x.2.2.2.2.2.1.length <= 100 /\ x.2.2.2.2.2.2.length <= 100 /\ (∀ p ∈ x.2.2.2.2.2.1,p.length <= 100 /\ progs p)
theorem col_spec (c:Int × Int × Int × Int):colour_Right c = some (decide (bok c)):=by
 unfold colour_Right;rw [bnd_eq,bnd_eq,f_max,f_max];refine congrArg some ?_;rw [show F.le (max (max c.1 c.2.1) c.2.2.1) c.2.2.2 = decide (max (max c.1 c.2.1) c.2.2.1 <= c.2.2.2) from rfl,decide_eq_decide];unfold bok;omega
theorem col_ref (c:Int × Int × Int × Int):glazierref02_Right c = some (decide (bok c)):=by
 unfold glazierref02_Right;by_cases h1:c.1 <= c.2.2.2
 ·rw [bnd_eq,le_t h1,bite_t,bnd_eq];by_cases h2:c.2.1 <= c.2.2.2
  ·rw [le_t h2,bite_t,bnd_eq,show F.le c.2.2.1 c.2.2.2 = decide (c.2.2.1 <= c.2.2.2) from rfl];exact dec_of ⟨fun k=>⟨h1,h2,k⟩,fun k=>k.2.2⟩
  ·rw [le_f (by omega),bite_f]; exact dec_f fun k=>h2 k.2.1
 ·rw [bnd_eq,le_f (by omega),bite_f]; exact dec_f fun k=>h1 k.1
theorem few_spec {fl:Nat} (hfl:101 <= fl) {x:Sc} (hx:small x):∃ b,scene_counts fl x = some b /\ glazierref14_many fl x = some (!b) /\ (b = true ↔ few x):=by
 obtain ⟨hb,h1,h2,h3,h4,h5⟩:=hx;have big:∀ d ∈ x.2.2.2.2.2.2,¬ ((32:Int) < d.2.2.2.2.length):=fun d hd=>by rw [hb d hd]; simp
 have ec:slices_ContainsFunc fl x.2.2.2.2.2.2 () = some false:=by
  refine (search_all (L:=slices_IndexFunc_l1 fl) (f:=scene_counts_1) (c:=()) (fun n l m i=>rfl) (p:=fun d=>(32:Int) < d.2.2.2.2.length) (fun q _=>?_) (by omega) (by omega)).trans ?_
  ·unfold scene_counts_1; rfl
  ·rw [decide_eq_false]; rintro ⟨d,hd,h⟩; exact big d hd h
 have em:=scan (l:=x.2.2.2.2.2.2) (c:=()) (d:=(x.1,(x.2.1,(x.2.2.1.1,(x.2.2.1.2.1,(x.2.2.1.2.2.1,(x.2.2.1.2.2.2,(x.2.2.2.1,(x.2.2.2.2.1,(x.2.2.2.2.2.1,(x.2.2.2.2.2.2,()))))))))))) (L:=fun n j=>glazierref14_many_l1 fl n j x.1 x.2.1 x.2.2.1.1 x.2.2.1.2.1 x.2.2.1.2.2.1 x.2.2.1.2.2.2 x.2.2.2.1 x.2.2.2.2.1 x.2.2.2.2.2.1 x.2.2.2.2.2.2) (step:=fun q K=>bite (F.gt (F.len q.2.2.2.2) 32) (some (.inl ())) K) (p:=fun q=>(32:Int) < q.2.2.2.2.length) (fun n j=>rfl)
   (fun q hq h=>absurd h (big q hq)) (fun q hq h K=>by rw [lenK,gt_f (by omega),bite_f]) (by omega) x.2.2.2.2.2.2.length fl 0 (by omega) (by omega) (fun j _ h=>by omega)
 rw [if_neg (by rintro ⟨d,hd,h⟩; exact big d hd h)] at em
 simp only [show ((0:Nat):Int) = 0 from rfl] at em;refine ⟨decide (few x),?_,?_,decide_eq_true_iff⟩
 ·unfold scene_counts;rw [bnd_eq,bnd_eq,lenK];by_cases a:x.2.2.2.1.length <= 64
  case neg=>rw [le_f (by omega),bite_f]; exact dec_f fun k=>a k.1
  rw [le_t (by omega),bite_t,bnd_eq,bnd_eq,lenK]
  by_cases b:x.2.2.2.2.1.length <= 4
  case neg=>rw [le_f (by omega),bite_f]; exact dec_f fun k=>b k.2.1
  rw [le_t (by omega),bite_t,bnd_eq,bnd_eq,lenK]
  by_cases c:x.2.2.2.2.2.1.length <= 4
  case neg=>rw [le_f (by omega),bite_f]; exact dec_f fun k=>c k.2.2.1
  rw [le_t (by omega),bite_t,bnd_eq,bnd_eq,lenK]
  by_cases d:x.2.2.2.2.2.2.length <= 8
  case neg=>rw [le_f (by omega),bite_f]; exact dec_f fun k=>d k.2.2.2
  rw [le_t (by omega),bite_t,ec,ob_some]
  exact dec_t ⟨a,b,c,d⟩
 ·unfold glazierref14_many;rw [em,ob_some];simp only [osum,bnd_eq,lenK];by_cases a:x.2.2.2.1.length <= 64
  case neg=>rw [gt_t (by omega),bite_t,decide_eq_false (fun k=>a k.1)]; rfl
  rw [gt_f (by omega),bite_f]
  by_cases b:x.2.2.2.2.1.length <= 4
  case neg=>rw [gt_t (by omega),bite_t,decide_eq_false (fun k=>b k.2.1)]; rfl
  rw [gt_f (by omega),bite_f]
  by_cases c:x.2.2.2.2.2.1.length <= 4
  case neg=>rw [gt_t (by omega),bite_t,decide_eq_false (fun k=>c k.2.2.1)]; rfl
  rw [gt_f (by omega),bite_f]
  by_cases d:x.2.2.2.2.2.2.length <= 8
  case neg=>rw [gt_t (by omega),decide_eq_false (fun k=>d k.2.2.2)]; rfl
  rw [gt_f (by omega),decide_eq_true (show few x from ⟨a,b,c,d⟩)]; rfl
theorem getD_at {l:List Dr} {i:Nat} (h:i < l.length):l.getD i (0,0,0,false,[]) = l[i]:=by rw [List.getD_eq_getElem?_getD,List.getElem?_eq_getElem h]; rfl
theorem dec_not {p:Prop} [Decidable p]:some (F.not (decide p)) = some (decide (¬ p)):=by
 by_cases h:p
 ·rw [decide_eq_true h,decide_eq_false (fun k=>k h)]; rfl
 ·rw [decide_eq_false h,decide_eq_true h]; rfl
theorem code_check {fl:Nat} (hfl:101 <= fl) {x:Sc} (hx:small x):scene_Check fl x = some (chk x):=by
 obtain ⟨c,ec,-,hc⟩:=few_spec hfl hx;obtain ⟨hb,s1,s2,s3,s4,s5⟩:=hx;have e1:slices_ContainsFunc__2 fl x.2.2.2.1 () = some (decide (∃ v ∈ x.2.2.2.1,¬ vok v)):=
  search_all (L:=slices_IndexFunc__2_l1 fl) (f:=scene_Check_1) (c:=()) (fun n l m i=>rfl) (p:=fun v=>¬ vok v) (fun q _=>by unfold scene_Check_1; rw [vec_right,ob_some,bnd_eq]; exact dec_not) (by omega) (by omega)
 have e2:slices_ContainsFunc__3 fl x.2.2.2.2.1 () = some (decide (∃ t ∈ x.2.2.2.2.1,¬ tok t)):=
  search_all (L:=slices_IndexFunc__3_l1 fl) (f:=scene_Check_2 fl) (c:=()) (fun n l m i=>rfl) (p:=fun t=>¬ tok t) (fun q _=>by unfold scene_Check_2; rw [right_spec (by omega),ob_some,bnd_eq]; exact dec_not) (by omega) (by omega)
 have e3:slices_ContainsFunc__4 fl x.2.2.2.2.2.1 () = some (decide (∃ p ∈ x.2.2.2.2.2.1,¬ prog p)):=
  search_all (L:=slices_IndexFunc__4_l1 fl) (f:=scene_Check_3 fl) (c:=()) (fun n l m i=>rfl) (p:=fun p=>¬ prog p) (fun q hq=>by
   unfold scene_Check_3;rw [(check_spec (by omega) (s5 q hq).2).1,ob_some,bnd_eq]
   by_cases h:prog q
   ·rw [if_pos h,ne_f rfl]; exact dec_f fun k=>k h
   ·rw [if_neg h,ne_t (by decide)]; exact dec_t h) (by omega) (by omega)
 have e4:=first (L:=fun n i=>scene_Check_l1 fl n x.2.2.2.2.2.2 x.2.2.2.2.2.2.length i x.1 x.2.1 x.2.2.1.1 x.2.2.1.2.1 x.2.2.1.2.2.1 x.2.2.1.2.2.2 x.2.2.2.1 x.2.2.2.2.1 x.2.2.2.2.2.1 x.2.2.2.2.2.2) (m:=x.2.2.2.2.2.2.length) (g:=dres x) (fun n i hi=>by
   show scene_Check_l1 fl (n + 1) x.2.2.2.2.2.2 x.2.2.2.2.2.2.length i x.1 x.2.1 x.2.2.1.1 x.2.2.1.2.1 x.2.2.1.2.2.1 x.2.2.1.2.2.2 x.2.2.2.1 x.2.2.2.2.1 x.2.2.2.2.2.1 x.2.2.2.2.2.2 = _;have hd:=List.getElem_mem hi;rw [scene_Check_l1,bnd_eq,lt_t (by omega),bite_t,lgetK hi,ob_some,names_spec hfl (hb _ hd) (fun q hq=>(s5 q hq).1),ob_some,bnd_eq]
   unfold dres;rw [getD_at hi];by_cases h1:nok x.2.2.2.1.length x.2.2.2.2.1.length x.2.2.2.2.2.1.length x.2.2.2.2.2.1 x.2.2.2.2.2.2[i]
   case neg=>rw [decide_eq_false h1,not_f,bite_t,if_neg h1,if_neg (by decide)]
   have cut:F.cutOk x.2.2.2.2.2.2 0 (i:Int) = true:=by unfold F.cutOk; rw [decide_eq_true (by omega),decide_eq_true (by omega),decide_eq_true (by omega)]; rfl
   rw [decide_eq_true h1,not_t,bite_f,if_pos h1,cut,show F.eq (i:Int) i = true from decide_eq_true rfl,show F.both true true = true from rfl,bgd_t,bnd_eq,cut_spec hi (by omega) (by omega),ob_some]
   by_cases h2:dup x.2.2.2.2.2.2 i
   ·rw [decide_eq_true h2,bite_t,if_pos h2,if_neg (by decide)]
   ·rw [decide_eq_false h2,bite_f,if_neg h2,if_pos rfl,twice_bare (hb _ hd),ob_some,bite_f,bnd_eq,addI (by omega)]; rfl)
  (fun n=>by
   show scene_Check_l1 fl (n + 1) x.2.2.2.2.2.2 x.2.2.2.2.2.2.length x.2.2.2.2.2.2.length x.1 x.2.1 x.2.2.1.1 x.2.2.1.2.1 x.2.2.1.2.2.1 x.2.2.1.2.2.2 x.2.2.2.1 x.2.2.2.2.1 x.2.2.2.2.2.1 x.2.2.2.2.2.2 = _
   rw [scene_Check_l1,bnd_eq,lt_f (by omega),bite_f]) x.2.2.2.2.2.2.length fl 0 (by omega) (by omega)
 simp only [show ((0:Nat):Int) = 0 from rfl] at e4;unfold scene_Check;rw [bnd_eq,bnd_eq,f_min,bnd_eq,bnd_eq,f_max];by_cases a:scr x
 case neg=>
  rw [chk_scr a];by_cases a1:min x.1 x.2.1 < 1
  ·rw [lt_t a1,bite_t]
  ·rw [lt_f (by omega),bite_f,gt_t (by unfold scr at a; omega),bite_t]
 rw [lt_f (by unfold scr at a; omega),bite_f,gt_f (by unfold scr at a; omega),bite_f,col_spec,ob_some,bnd_eq]
 by_cases b:bok x.2.2.1
 case neg=>rw [decide_eq_false b,not_f,bite_t,chk_bok a b]
 rw [decide_eq_true b,not_t,bite_f,ec,ob_some,bnd_eq];by_cases d:few x
 case neg=>
  obtain rfl:c = false:=by cases c <;> simp_all
  rw [not_f,bite_t,chk_few a b d]
 rw [hc.2 d,not_t,bite_f,e1,ob_some];by_cases h1:∃ v ∈ x.2.2.2.1,¬ vok v
 case pos=>rw [decide_eq_true h1,bite_t,chk_v a b d h1]
 rw [decide_eq_false h1,bite_f,e2,ob_some];by_cases h2:∃ t ∈ x.2.2.2.2.1,¬ tok t
 case pos=>rw [decide_eq_true h2,bite_t,chk_t a b d h1 h2]
 rw [decide_eq_false h2,bite_f,e3,ob_some];by_cases h3:∃ p ∈ x.2.2.2.2.2.1,¬ prog p
 case pos=>rw [decide_eq_true h3,bite_t,chk_p a b d h1 h2 h3]
 rw [decide_eq_false h3,bite_f,bnd_eq,lenK,e4,chk_d a b d h1 h2 h3];split
 ·next h=>rw [ob_some,h]; rfl
 ·rfl
theorem ref_check {fl:Nat} (hfl:102 <= fl) {x:Sc} (hx:small x):glazierref14_Check fl x = some (chk x):=by
 obtain ⟨c,-,ec,hc⟩:=few_spec (by omega:101 <= fl) hx
 obtain ⟨hb,s1,s2,s3,s4,s5⟩:=hx;have e1:=scan (l:=x.2.2.2.1) (c:=()) (d:=(x.1,(x.2.1,(x.2.2.1.1,(x.2.2.1.2.1,(x.2.2.1.2.2.1,(x.2.2.1.2.2.2,(x.2.2.2.1,(x.2.2.2.2.1,(x.2.2.2.2.2.1,(x.2.2.2.2.2.2,()))))))))))) (L:=fun n j=>glazierref14_Check_l1 fl n j x.1 x.2.1 x.2.2.1.1 x.2.2.1.2.1 x.2.2.1.2.2.1 x.2.2.1.2.2.2 x.2.2.2.1 x.2.2.2.2.1 x.2.2.2.2.2.1 x.2.2.2.2.2.2) (step:=fun q K=>obind (glazierref04_Right q) fun r=>bnd (F.not r) fun v=>bite v (some (.inl ())) K) (p:=fun q=>¬ vok q) (fun n j=>rfl)
   (fun q _ h K=>by rw [vec_ref,decide_eq_false h]; rfl) (fun q _ h K=>by rw [vec_ref,decide_eq_true (Decidable.not_not.1 h)]; rfl) (by omega) x.2.2.2.1.length fl 0 (by omega) (by omega) (fun j _ h=>by omega)
 have e2:=scan (l:=x.2.2.2.2.1) (c:=()) (d:=(x.1,(x.2.1,(x.2.2.1.1,(x.2.2.1.2.1,(x.2.2.1.2.2.1,(x.2.2.1.2.2.2,(x.2.2.2.1,(x.2.2.2.2.1,(x.2.2.2.2.2.1,(x.2.2.2.2.2.2,()))))))))))) (L:=fun n j=>glazierref14_Check_l2 fl n j x.1 x.2.1 x.2.2.1.1 x.2.2.1.2.1 x.2.2.1.2.2.1 x.2.2.1.2.2.2 x.2.2.2.1 x.2.2.2.2.1 x.2.2.2.2.2.1 x.2.2.2.2.2.2) (step:=fun q K=>obind (glazierref11_Right q) fun r=>bnd (F.not r) fun v=>bite v (some (.inl ())) K) (p:=fun q=>¬ tok q) (fun n j=>rfl)
   (fun q _ h K=>by rw [ref_right,decide_eq_false h]; rfl) (fun q _ h K=>by rw [ref_right,decide_eq_true (Decidable.not_not.1 h)]; rfl) (by omega) x.2.2.2.2.1.length fl 0 (by omega) (by omega) (fun j _ h=>by omega)
 have e3:=scan (l:=x.2.2.2.2.2.1) (c:=()) (d:=(x.1,(x.2.1,(x.2.2.1.1,(x.2.2.1.2.1,(x.2.2.1.2.2.1,(x.2.2.1.2.2.2,(x.2.2.2.1,(x.2.2.2.2.1,(x.2.2.2.2.2.1,(x.2.2.2.2.2.2,()))))))))))) (L:=fun n j=>glazierref14_Check_l3 fl n j x.1 x.2.1 x.2.2.1.1 x.2.2.1.2.1 x.2.2.1.2.2.1 x.2.2.1.2.2.2 x.2.2.2.1 x.2.2.2.2.1 x.2.2.2.2.2.1 x.2.2.2.2.2.2) (step:=fun q K=>obind (glazierref12_Check fl q) fun r=>bnd (F.ne r 0) fun v=>bite v (some (.inl ())) K) (p:=fun q=>¬ prog q) (fun n j=>rfl)
   (fun q hq h K=>by rw [(check_spec (by omega) (s5 q hq).2).2,if_neg h]; rfl) (fun q hq h K=>by rw [(check_spec (by omega) (s5 q hq).2).2,if_pos (Decidable.not_not.1 h)]; rfl) (by omega) x.2.2.2.2.2.1.length fl 0 (by omega) (by omega) (fun j _ h=>by omega)
 have e4:=first (L:=fun n i=>glazierref14_Check_l4 fl n i x.1 x.2.1 x.2.2.1.1 x.2.2.1.2.1 x.2.2.1.2.2.1 x.2.2.1.2.2.2 x.2.2.2.1 x.2.2.2.2.1 x.2.2.2.2.2.1 x.2.2.2.2.2.2) (m:=x.2.2.2.2.2.2.length) (g:=dres x) (fun n i hi=>by
   show glazierref14_Check_l4 fl (n + 1) i x.1 x.2.1 x.2.2.1.1 x.2.2.1.2.1 x.2.2.1.2.2.1 x.2.2.1.2.2.2 x.2.2.2.1 x.2.2.2.2.1 x.2.2.2.2.2.1 x.2.2.2.2.2.2 = _;rw [glazierref14_Check_l4,bnd_eq,lenK,bnd_eq,lt_t (by omega),bite_t]
   have er:=ref_draw (x:=x) (by omega:101 <= fl) hi hb (fun q hq=>(s5 q hq).1) (by omega) (by omega)
   have ex:(if nok x.2.2.2.1.length x.2.2.2.2.1.length x.2.2.2.2.2.1.length x.2.2.2.2.2.1 x.2.2.2.2.2.2[i] then (if dup x.2.2.2.2.2.2 i then (25:Int) else 0) else 24) = dres x i:=by unfold dres; rw [getD_at hi]
   rw [ex] at er;refine (congrArg (fun z=>obind z _) er).trans ?_
   rw [ob_some,bnd_eq];by_cases h:dres x i = 0
   ·rw [ne_f h,bite_f,if_pos h,bnd_eq,addI (by omega)]; rfl
   ·rw [ne_t h,bite_t,if_neg h])
  (fun n=>by
   show glazierref14_Check_l4 fl (n + 1) x.2.2.2.2.2.2.length x.1 x.2.1 x.2.2.1.1 x.2.2.1.2.1 x.2.2.1.2.2.1 x.2.2.1.2.2.2 x.2.2.2.1 x.2.2.2.2.1 x.2.2.2.2.2.1 x.2.2.2.2.2.2 = _
   rw [glazierref14_Check_l4,bnd_eq,lenK,bnd_eq,lt_f (by omega),bite_f]) x.2.2.2.2.2.2.length fl 0 (by omega) (by omega)
 simp only [show ((0:Nat):Int) = 0 from rfl] at e1 e2 e3 e4;unfold glazierref14_Check;rw [bnd_eq];by_cases a:scr x
 case neg=>
  rw [chk_scr a];by_cases a1:x.1 < 1
  ·rw [lt_t a1,bite_t]
  rw [lt_f (by omega),bite_f,bnd_eq]
  by_cases a2:64 < x.1
  ·rw [gt_t a2,bite_t]
  rw [gt_f (by omega),bite_f,bnd_eq]
  by_cases a3:x.2.1 < 1
  ·rw [lt_t a3,bite_t]
  rw [lt_f (by omega),bite_f,bnd_eq,gt_t (by unfold scr at a; omega),bite_t]
 have a':=a;unfold scr at a';rw [lt_f (by omega),bite_f,bnd_eq,gt_f (by omega),bite_f,bnd_eq,lt_f (by omega),bite_f,bnd_eq,gt_f (by omega),bite_f,col_ref,ob_some,bnd_eq]
 by_cases b:bok x.2.2.1
 case neg=>rw [decide_eq_false b,not_f,bite_t,chk_bok a b]
 rw [decide_eq_true b,not_t,bite_f,ec,ob_some];by_cases d:few x
 case neg=>
  obtain rfl:c = false:=by cases c <;> simp_all
  rw [show (!false) = true from rfl,bite_t,chk_few a b d]
 rw [hc.2 d,show (!true) = false from rfl,bite_f,e1];by_cases h1:∃ v ∈ x.2.2.2.1,¬ vok v
 case pos=>rw [if_pos h1,ob_some,chk_v a b d h1]; rfl
 rw [if_neg h1,ob_some];simp only [osum];rw [e2];by_cases h2:∃ t ∈ x.2.2.2.2.1,¬ tok t
 case pos=>rw [if_pos h2,ob_some,chk_t a b d h1 h2]
 rw [if_neg h2,ob_some];simp only;rw [e3];by_cases h3:∃ p ∈ x.2.2.2.2.2.1,¬ prog p
 case pos=>rw [if_pos h3,ob_some,chk_p a b d h1 h2 h3]
 rw [if_neg h3,ob_some];simp only;rw [e4,chk_d a b d h1 h2 h3];split
 ·next h=>rw [ob_some,h]
 ·rfl
end Go.Proofs.YthnagpmnoncijaaGreat.G
namespace Go.Proofs.YthnagpmnoncijaaGreat.G
open Go Go.RowKit Go.Proofs.YthnagpmnoncijaaGreat.M
abbrev Res:=(Int × Int × List (Int × Int × Int × Int)) × (List Int × Int × Int × Int × Int × Int) × Int
def resNo (e:Int):Res:=((0,(0,[])),(([],(0,(0,(0,(0,0))))),e))
theorem render_tail (fl:Nat) (hfl:6000 <= fl) (x:Sc) (room tile:Int) (hb:bare x.2.2.2.2.2.2) (hl:x.2.2.2.2.2.2.length <= 1000) (hs:scr x) (ht:1 <= tile /\ tile <= 64) :
  ∃ px p l r,px.length = (x.1 * x.2.1).toNat /\ (obind (frags_New x) fun q41=>
     obind (prepass_New x.1 x.2.1) fun q42=>
     bnd (F.mul .i64 x.1 x.2.1) fun v43=>
     bgd (F.fillOk 4 v43) (
      bnd (F.len q41.2.2.2.2.2.2.2.2.2.1) fun v44=>
      obind (frame_Render_i79_l2 fl fl q41.2.2.2.2.2.2.2.2.2.1 v44 0 room tile x.1 x.2.1 x.2.2.1.1 x.2.2.1.2.1 x.2.2.1.2.2.1 x.2.2.1.2.2.2 x.2.2.2.1 x.2.2.2.2.1 x.2.2.2.2.2.1 x.2.2.2.2.2.2 room tile q41.1 q41.2.1 q41.2.2.1 q41.2.2.2.1 q41.2.2.2.2.1 q41.2.2.2.2.2.1 q41.2.2.2.2.2.2.1 q41.2.2.2.2.2.2.2.1 q41.2.2.2.2.2.2.2.2.1 q41.2.2.2.2.2.2.2.2.2.1 x.1 x.2.1 x.2.2.1.1 x.2.2.1.2.1 x.2.2.1.2.2.1 x.2.2.1.2.2.2 x.2.2.2.1 x.2.2.2.2.1 x.2.2.2.2.2.1 x.2.2.2.2.2.2 q41.1 q41.2.1 q41.2.2.1 q41.2.2.2.1 q41.2.2.2.2.1 q41.2.2.2.2.2.1 q41.2.2.2.2.2.2.1 q41.2.2.2.2.2.2.2.1 q41.2.2.2.2.2.2.2.2.1 q41.2.2.2.2.2.2.2.2.2.1 q42.1 q42.2.1 x.1 x.2.1 x.2.2.1.1 x.2.2.1.2.1 x.2.2.1.2.2.1 x.2.2.1.2.2.2 x.2.2.2.1 x.2.2.2.2.1 x.2.2.2.2.2.1 x.2.2.2.2.2.2 room tile x.1 x.2.1 (F.fill v43 (0,(0,(0,0)))) x.1 x.2.1) fun q45=>
      obind (frame_Tiles fl q45.2.2.2.2.2.2.2.2.2.2.2.2.2.2.2.2.2.2.2.2.2.2.2.2.1 q45.2.2.2.2.2.2.2.2.2.2.2.2.2.2.2.2.2.2.2.2.2.2.2.2.2.1 q45.2.1) fun q46=>
      bnd (F.len q46) fun v47=>
      obind (frame_Render_l1 fl fl q46 v47 0 q45.2.2.2.2.2.2.2.2.2.2.2.2.2.2.2.2.2.2.2.2.2.2.2.2.2.2.2.2.2.2.2.2.2.2.1 q45.2.2.2.2.2.2.2.2.2.2.2.2.2.2.2.2.2.2.2.2.2.2.2.2.2.2.2.2.2.2.2.2.2.2.2.1 q45.2.2.2.2.2.2.2.2.2.2.2.2.2.2.2.2.2.2.2.2.2.2.2.2.2.2.2.2.2.2.2.2.2.2.2.2.1 q45.2.2.2.2.2.2.2.2.2.2.2.2.2.2.2.2.2.2.2.2.2.2.2.2.2.2.2.2.2.2.2.2.2.2.2.2.2.1 q45.2.2.2.2.2.2.2.2.2.2.2.2.2.2.2.2.2.2.2.2.2.2.2.2.2.2.2.2.2.2.2.2.2.2.2.2.2.2.1 q45.2.2.2.2.2.2.2.2.2.2.2.2.2.2.2.2.2.2.2.2.2.2.2.2.2.2.2.2.2.2.2.2.2.2.2.2.2.2.2.1 q45.2.2.2.2.2.2.2.2.2.2.2.2.2.2.2.2.2.2.2.2.2.2.2.2.2.2.2.2.2.2.2.2.2.2.2.2.2.2.2.2.1 q45.2.2.2.2.2.2.2.2.2.2.2.2.2.2.2.2.2.2.2.2.2.2.2.2.2.2.2.2.2.2.2.2.2.2.2.2.2.2.2.2.2.2.2.1 q45.2.2.2.2.2.2.2.2.2.2.2.2.2.2.2.2.2.2.2.2.2.2.2.2.2.2.2.2.2.2.2.2.2.2.2.2.2.2.2.2.2.2.2.2.1 q45.2.2.2.2.2.2.2.2.2.2.2.2.2.2.2.2.2.2.2.2.2.2.2.2.2.2.2.2.2.2.2.2.2.2.2.2.2.2.2.2.2.2.2.2.2.1 q45.2.2.2.2.2.2.2.2.2.2.2.2.2.2.2.2.2.2.2.2.2.2.2.2.2.2.2.2.2.2.2.2.2.2.2.2.2.2.2.2.2.2.2.2.2.2.1 q45.2.2.2.2.2.2.2.2.2.2.2.2.2.2.2.2.2.2.2.2.2.2.2.2.2.2.2.2.2.2.2.2.2.2.2.2.2.2.2.2.2.2.2.2.2.2.2.1 q45.2.2.2.2.2.2.2.2.2.2.2.2.2.2.2.2.2.2.2.2.2.2.2.2.2.2.2.2.2.2.2.2.2.2.2.2.2.2.2.2.2.2.2.2.2.2.2.2.1 q45.2.2.2.2.2.2.2.2.2.2.2.2.2.2.2.2.2.2.2.2.2.2.2.2.2.2.2.2.2.2.2.2.2.2.2.2.2.2.2.2.2.2.2.2.2.2.2.2.2.1 q45.2.2.2.2.2.2.2.2.2.2.2.2.2.2.2.2.2.2.2.2.2.2.2.2.2.2.2.2.2.2.2.2.2.2.2.2.2.2.2.2.2.2.2.2.2.2.2.2.2.2.1 q45.2.2.2.2.2.2.2.2.2.2.2.2.2.2.2.2.2.2.2.2.2.2.2.2.2.2.2.2.2.2.2.2.2.2.2.2.2.2.2.2.2.2.2.2.2.2.2.2.2.2.2.1 q45.2.2.2.2.2.2.2.2.2.2.2.2.2.2.2.2.2.2.2.2.2.2.2.2.2.2.2.2.2.2.2.2.2.2.2.2.2.2.2.2.2.2.2.2.2.2.2.2.2.2.2.2.1 q45.2.2.2.2.2.2.2.2.2.2.2.2.2.2.2.2.2.2.2.2.2.2.2.2.2.2.2.2.2.2.2.2.2.2.2.2.2.2.2.2.2.2.2.2.2.2.2.2.2.2.2.2.2.2.2.1 q45.2.2.2.2.2.2.2.2.2.2.2.2.2.2.2.2.2.2.2.2.2.2.2.2.2.2.2.2.2.2.2.2.2.2.2.2.2.2.2.2.2.2.2.2.2.2.2.2.2.2.2.2.2.2.2.2.1 q45.2.2.2.2.2.2.2.2.2.2.2.2.2.2.2.2.2.2.2.2.2.2.2.2.2.2.2.2.2.2.2.2.2.2.2.2.2.2.2.2.2.2.2.2.2.2.2.2.2.2.2.2.2.2.2.2.2.1 q45.2.2.2.2.2.2.2.2.2.2.2.2.2.2.2.2.2.2.2.2.2.2.2.2.2.2.2.2.2.2.2.2.2.2.2.2.2.2.2.2.2.2.2.2.2.2.2.2.2.2.2.2.2.2.2.2.2.2.1 q45.2.2.2.2.2.2.2.2.2.2.2.2.2.2.2.2.2.2.2.2.2.2.2.2.2.2.2.2.2.2.2.2.2.2.2.2.2.2.2.2.2.2.2.2.2.2.2.2.2.2.2.2.2.2.2.2.2.2.2.1 q45.2.2.2.2.2.2.2.2.2.2.2.2.2.2.2.2.2.2.2.2.2.2.2.2.2.2.2.2.2.2.2.2.2.2.2.2.2.2.2.2.2.2.2.2.2.2.2.2.2.2.2.2.2.2.2.2.2.2.2.2.1 0 0 0) fun q48=>
      some ((q48.2.2.2.2.2.2.2.2.2.2.2.2.2.2.2.2.2.2.2.2.1,(q48.2.2.2.2.2.2.2.2.2.2.2.2.2.2.2.2.2.2.2.2.2.1,q48.2.2.2.2.2.2.2.2.2.2.2.2.2.2.2.2.2.2.2.2.2.2.1)),(([],(q48.2.2.2.2.2.2.2.2.2.2.2.2.2.2.2.2.2.2.2.2.2.2.2.1,(q48.2.2.2.2.2.2.2.2.2.2.2.2.2.2.2.2.2.2.2.2.2.2.2.2.1,(q48.2.2.2.2.2.2.2.2.2.2.2.2.2.2.2.2.2.2.2.2.2.2.2.2.2.1,(0,0))))),0)))) = some (((x.1,(x.2.1,px)),(([],(p,(l,(r,(0,0))))),0)):Res):=by
 obtain ⟨hw,hh⟩:=hs;obtain ⟨fl,rfl⟩:∃ m,fl = m + 1:=⟨fl - 1,by omega⟩
 have hm:1 * 1 <= x.1 * x.2.1 /\ x.1 * x.2.1 <= 64 * 64:=⟨Int.mul_le_mul (by omega) (by omega) (by omega) (by omega),Int.mul_le_mul (by omega) (by omega) (by omega) (by omega)⟩
 have e2:=frame_Render_i79_l2_all fl (x.2.2.2.2.2.2) room tile (x.1) (x.2.1) (x.2.2.1.1) (x.2.2.1.2.1) (x.2.2.1.2.2.1) (x.2.2.1.2.2.2) (x.2.2.2.1) (x.2.2.2.2.1) (x.2.2.2.2.2.1) (x.2.2.2.2.2.2) room tile (x.1) (x.2.1) (x.2.2.1.1) (x.2.2.1.2.1) (x.2.2.1.2.2.1) (x.2.2.1.2.2.2) (x.2.2.2.1) (x.2.2.2.2.1) (x.2.2.2.2.2.1) (x.2.2.2.2.2.2) (x.1) (x.2.1) (x.2.2.1.1) (x.2.2.1.2.1) (x.2.2.1.2.2.1) (x.2.2.1.2.2.2) (x.2.2.2.1) (x.2.2.2.2.1) (x.2.2.2.2.2.1) (x.2.2.2.2.2.2) (x.1) (x.2.1) (x.2.2.1.1) (x.2.2.1.2.1) (x.2.2.1.2.2.1) (x.2.2.1.2.2.2) (x.2.2.2.1) (x.2.2.2.2.1) (x.2.2.2.2.2.1) (x.2.2.2.2.2.2) (F.min (F.max x.1 0) 64) (F.min (F.max x.2.1 0) 64) (x.1) (x.2.1) (x.2.2.1.1) (x.2.2.1.2.1) (x.2.2.1.2.2.1) (x.2.2.1.2.2.2) (x.2.2.2.1) (x.2.2.2.2.1) (x.2.2.2.2.2.1) (x.2.2.2.2.2.2) room tile (x.1) (x.2.1) (F.fill (x.1 * x.2.1) (0,(0,(0,0)))) (x.1) (x.2.1) hb hl x.2.2.2.2.2.2.length (fl + 1) 0 (by omega) (by omega)
 rw [show ((0:Nat):Int) = 0 from rfl] at e2;obtain ⟨l,hll,hg,et⟩:=tiles_spec (fl + 1) (by omega) x.1 x.2.1 tile ht hw hh
 have hpl:(F.fill (x.1 * x.2.1) ((0,(0,(0,0))):Int × Int × Int × Int)).length = (x.1 * x.2.1).toNat:=List.length_replicate;obtain ⟨px,p,lv,r,h1,e1⟩:=render_tiles fl (by omega) l (x.1) (x.2.1) (x.2.2.1.1) (x.2.2.1.2.1) (x.2.2.1.2.2.1) (x.2.2.1.2.2.2) (x.2.2.2.1) (x.2.2.2.2.2.2) (F.min (F.max x.1 0) 64) (F.min (F.max x.2.1 0) 64) (x.1) (x.2.1) (x.2.2.1.1) (x.2.2.1.2.1) (x.2.2.1.2.2.1) (x.2.2.1.2.2.2) (x.2.2.2.1) (x.2.2.2.2.2.2) room tile (x.1) (x.2.1) hb hl (by omega) x.2.1 hh.2 hw hg l.length (fl + 1) 0 (F.fill (x.1 * x.2.1) (0,(0,(0,0)))) 0 0 0 (by omega) (by omega) (by rw [hpl,Int.mul_comm]; omega)
 rw [show ((0:Nat):Int) = 0 from rfl] at e1;refine ⟨px,p,lv,r,h1.trans hpl,?_⟩
 rw [show frags_New x = some (x.1,(x.2.1,(x.2.2.1.1,(x.2.2.1.2.1,(x.2.2.1.2.2.1,(x.2.2.1.2.2.2,(x.2.2.2.1,(x.2.2.2.2.1,(x.2.2.2.2.2.1,(x.2.2.2.2.2.2,())))))))))) from rfl,ob_some,
  show prepass_New x.1 x.2.1 = some (F.min (F.max x.1 0) 64,(F.min (F.max x.2.1 0) 64,())) from rfl,ob_some,bnd_eq,mulI (by omega),fillOk_t (by omega) (by omega) (by decide),bgd_t,bnd_eq,lenK]
 refine (congrArg (fun z=>obind z _) e2).trans ?_
 rw [ob_some];refine (congrArg (fun z=>obind z _) et).trans ?_
 rw [ob_some,bnd_eq,lenK];refine (congrArg (fun z=>obind z _) e1).trans ?_
 rfl
def argOk (room tile:Int):Prop:=(1 <= room /\ room <= 65536) /\ (tile = 8 \/ tile = 16 \/ tile = 32 \/ tile = 64)
theorem render_no {fl:Nat} {x:Sc} {room tile:Int} (h:¬ argOk room tile):frame_Render fl x room tile = some (resNo 1):=by
 unfold frame_Render;rw [bnd_eq];by_cases h1:room < 1
 ·rw [lt_t h1,bite_t]; rfl
 rw [lt_f (by omega),bite_f,bnd_eq]
 by_cases h2:65536 < room
 ·rw [gt_t h2,bite_t]; rfl
 unfold argOk at h;rw [gt_f (by omega),bite_f,bnd_eq,ne_t (by omega),bite_t,bnd_eq,ne_t (by omega),bite_t,bnd_eq,ne_t (by omega),bite_t,bnd_eq,ne_t (by omega),bite_t]
 rfl
theorem render_at {fl:Nat} {x:Sc} {room tile:Int} (h:argOk room tile):∃ f:Int -> Option Res,(∀ e,e ≠ 0 -> f e = some (resNo e)) /\ (f 0 = (obind (frags_New x) fun q41=>
     obind (prepass_New x.1 x.2.1) fun q42=>
     bnd (F.mul .i64 x.1 x.2.1) fun v43=>
     bgd (F.fillOk 4 v43) (
      bnd (F.len q41.2.2.2.2.2.2.2.2.2.1) fun v44=>
      obind (frame_Render_i79_l2 fl fl q41.2.2.2.2.2.2.2.2.2.1 v44 0 room tile x.1 x.2.1 x.2.2.1.1 x.2.2.1.2.1 x.2.2.1.2.2.1 x.2.2.1.2.2.2 x.2.2.2.1 x.2.2.2.2.1 x.2.2.2.2.2.1 x.2.2.2.2.2.2 room tile q41.1 q41.2.1 q41.2.2.1 q41.2.2.2.1 q41.2.2.2.2.1 q41.2.2.2.2.2.1 q41.2.2.2.2.2.2.1 q41.2.2.2.2.2.2.2.1 q41.2.2.2.2.2.2.2.2.1 q41.2.2.2.2.2.2.2.2.2.1 x.1 x.2.1 x.2.2.1.1 x.2.2.1.2.1 x.2.2.1.2.2.1 x.2.2.1.2.2.2 x.2.2.2.1 x.2.2.2.2.1 x.2.2.2.2.2.1 x.2.2.2.2.2.2 q41.1 q41.2.1 q41.2.2.1 q41.2.2.2.1 q41.2.2.2.2.1 q41.2.2.2.2.2.1 q41.2.2.2.2.2.2.1 q41.2.2.2.2.2.2.2.1 q41.2.2.2.2.2.2.2.2.1 q41.2.2.2.2.2.2.2.2.2.1 q42.1 q42.2.1 x.1 x.2.1 x.2.2.1.1 x.2.2.1.2.1 x.2.2.1.2.2.1 x.2.2.1.2.2.2 x.2.2.2.1 x.2.2.2.2.1 x.2.2.2.2.2.1 x.2.2.2.2.2.2 room tile x.1 x.2.1 (F.fill v43 (0,(0,(0,0)))) x.1 x.2.1) fun q45=>
      obind (frame_Tiles fl q45.2.2.2.2.2.2.2.2.2.2.2.2.2.2.2.2.2.2.2.2.2.2.2.2.1 q45.2.2.2.2.2.2.2.2.2.2.2.2.2.2.2.2.2.2.2.2.2.2.2.2.2.1 q45.2.1) fun q46=>
      bnd (F.len q46) fun v47=>
      obind (frame_Render_l1 fl fl q46 v47 0 q45.2.2.2.2.2.2.2.2.2.2.2.2.2.2.2.2.2.2.2.2.2.2.2.2.2.2.2.2.2.2.2.2.2.2.1 q45.2.2.2.2.2.2.2.2.2.2.2.2.2.2.2.2.2.2.2.2.2.2.2.2.2.2.2.2.2.2.2.2.2.2.2.1 q45.2.2.2.2.2.2.2.2.2.2.2.2.2.2.2.2.2.2.2.2.2.2.2.2.2.2.2.2.2.2.2.2.2.2.2.2.1 q45.2.2.2.2.2.2.2.2.2.2.2.2.2.2.2.2.2.2.2.2.2.2.2.2.2.2.2.2.2.2.2.2.2.2.2.2.2.1 q45.2.2.2.2.2.2.2.2.2.2.2.2.2.2.2.2.2.2.2.2.2.2.2.2.2.2.2.2.2.2.2.2.2.2.2.2.2.2.1 q45.2.2.2.2.2.2.2.2.2.2.2.2.2.2.2.2.2.2.2.2.2.2.2.2.2.2.2.2.2.2.2.2.2.2.2.2.2.2.2.1 q45.2.2.2.2.2.2.2.2.2.2.2.2.2.2.2.2.2.2.2.2.2.2.2.2.2.2.2.2.2.2.2.2.2.2.2.2.2.2.2.2.1 q45.2.2.2.2.2.2.2.2.2.2.2.2.2.2.2.2.2.2.2.2.2.2.2.2.2.2.2.2.2.2.2.2.2.2.2.2.2.2.2.2.2.2.2.1 q45.2.2.2.2.2.2.2.2.2.2.2.2.2.2.2.2.2.2.2.2.2.2.2.2.2.2.2.2.2.2.2.2.2.2.2.2.2.2.2.2.2.2.2.2.1 q45.2.2.2.2.2.2.2.2.2.2.2.2.2.2.2.2.2.2.2.2.2.2.2.2.2.2.2.2.2.2.2.2.2.2.2.2.2.2.2.2.2.2.2.2.2.1 q45.2.2.2.2.2.2.2.2.2.2.2.2.2.2.2.2.2.2.2.2.2.2.2.2.2.2.2.2.2.2.2.2.2.2.2.2.2.2.2.2.2.2.2.2.2.2.1 q45.2.2.2.2.2.2.2.2.2.2.2.2.2.2.2.2.2.2.2.2.2.2.2.2.2.2.2.2.2.2.2.2.2.2.2.2.2.2.2.2.2.2.2.2.2.2.2.1 q45.2.2.2.2.2.2.2.2.2.2.2.2.2.2.2.2.2.2.2.2.2.2.2.2.2.2.2.2.2.2.2.2.2.2.2.2.2.2.2.2.2.2.2.2.2.2.2.2.1 q45.2.2.2.2.2.2.2.2.2.2.2.2.2.2.2.2.2.2.2.2.2.2.2.2.2.2.2.2.2.2.2.2.2.2.2.2.2.2.2.2.2.2.2.2.2.2.2.2.2.1 q45.2.2.2.2.2.2.2.2.2.2.2.2.2.2.2.2.2.2.2.2.2.2.2.2.2.2.2.2.2.2.2.2.2.2.2.2.2.2.2.2.2.2.2.2.2.2.2.2.2.2.1 q45.2.2.2.2.2.2.2.2.2.2.2.2.2.2.2.2.2.2.2.2.2.2.2.2.2.2.2.2.2.2.2.2.2.2.2.2.2.2.2.2.2.2.2.2.2.2.2.2.2.2.2.1 q45.2.2.2.2.2.2.2.2.2.2.2.2.2.2.2.2.2.2.2.2.2.2.2.2.2.2.2.2.2.2.2.2.2.2.2.2.2.2.2.2.2.2.2.2.2.2.2.2.2.2.2.2.1 q45.2.2.2.2.2.2.2.2.2.2.2.2.2.2.2.2.2.2.2.2.2.2.2.2.2.2.2.2.2.2.2.2.2.2.2.2.2.2.2.2.2.2.2.2.2.2.2.2.2.2.2.2.2.2.2.1 q45.2.2.2.2.2.2.2.2.2.2.2.2.2.2.2.2.2.2.2.2.2.2.2.2.2.2.2.2.2.2.2.2.2.2.2.2.2.2.2.2.2.2.2.2.2.2.2.2.2.2.2.2.2.2.2.2.1 q45.2.2.2.2.2.2.2.2.2.2.2.2.2.2.2.2.2.2.2.2.2.2.2.2.2.2.2.2.2.2.2.2.2.2.2.2.2.2.2.2.2.2.2.2.2.2.2.2.2.2.2.2.2.2.2.2.2.1 q45.2.2.2.2.2.2.2.2.2.2.2.2.2.2.2.2.2.2.2.2.2.2.2.2.2.2.2.2.2.2.2.2.2.2.2.2.2.2.2.2.2.2.2.2.2.2.2.2.2.2.2.2.2.2.2.2.2.2.1 q45.2.2.2.2.2.2.2.2.2.2.2.2.2.2.2.2.2.2.2.2.2.2.2.2.2.2.2.2.2.2.2.2.2.2.2.2.2.2.2.2.2.2.2.2.2.2.2.2.2.2.2.2.2.2.2.2.2.2.2.1 q45.2.2.2.2.2.2.2.2.2.2.2.2.2.2.2.2.2.2.2.2.2.2.2.2.2.2.2.2.2.2.2.2.2.2.2.2.2.2.2.2.2.2.2.2.2.2.2.2.2.2.2.2.2.2.2.2.2.2.2.2.1 0 0 0) fun q48=>
      some ((q48.2.2.2.2.2.2.2.2.2.2.2.2.2.2.2.2.2.2.2.2.1,(q48.2.2.2.2.2.2.2.2.2.2.2.2.2.2.2.2.2.2.2.2.2.1,q48.2.2.2.2.2.2.2.2.2.2.2.2.2.2.2.2.2.2.2.2.2.2.1)),(([],(q48.2.2.2.2.2.2.2.2.2.2.2.2.2.2.2.2.2.2.2.2.2.2.2.1,(q48.2.2.2.2.2.2.2.2.2.2.2.2.2.2.2.2.2.2.2.2.2.2.2.2.1,(q48.2.2.2.2.2.2.2.2.2.2.2.2.2.2.2.2.2.2.2.2.2.2.2.2.2.1,(0,0))))),0))))) /\ frame_Render fl x room tile = obind (scene_Check fl x) f:=by
 unfold argOk at h;unfold frame_Render;rw [bnd_eq,lt_f (by omega),bite_f,bnd_eq,gt_f (by omega),bite_f]
 rcases h.2 with rfl | rfl | rfl | rfl
 ·exact ⟨_,fun e he=>by rw [bnd_eq,ne_t he,bite_t]; rfl,rfl,rfl⟩
 ·exact ⟨_,fun e he=>by rw [bnd_eq,ne_t he,bite_t]; rfl,rfl,rfl⟩
 ·exact ⟨_,fun e he=>by rw [bnd_eq,ne_t he,bite_t]; rfl,rfl,rfl⟩
 ·exact ⟨_,fun e he=>by rw [bnd_eq,ne_t he,bite_t]; rfl,rfl,rfl⟩
theorem render_chk {fl:Nat} (hfl:101 <= fl) {x:Sc} {room tile:Int} (h:argOk room tile) (hx:small x) (hc:chk x ≠ 0):frame_Render fl x room tile = some (resNo (chk x)):=by
 obtain ⟨f,h1,h2,e⟩:=render_at (fl:=fl) (x:=x) h;rw [e,code_check hfl hx,ob_some,h1 _ hc]
theorem render_ok {fl:Nat} (hfl:6000 <= fl) {x:Sc} {room tile:Int} (h:argOk room tile) (hx:small x) (hc:chk x = 0) :
  ∃ px p l r,px.length = (x.1 * x.2.1).toNat /\ frame_Render fl x room tile = some ((x.1,(x.2.1,px)),(([],(p,(l,(r,(0,0))))),0)):=by
 have hs:scr x:=Classical.byContradiction fun k=>by rw [chk_scr k] at hc; omega
 obtain ⟨f,h1,h2,e⟩:=render_at (fl:=fl) (x:=x) h;obtain ⟨px,p,l,r,hp,e'⟩:=render_tail fl hfl x room tile hx.1 (by have:=hx.2.2.2.2.1; omega) hs (by unfold argOk at h; omega)
 exact ⟨px,p,l,r,hp,by rw [e,code_check (by omega) hx,ob_some,hc,h2,e']⟩
end Go.Proofs.YthnagpmnoncijaaGreat.G
namespace Go.Proofs.YthnagpmnoncijaaGreat.G
open Go Go.RowKit Go.Proofs.YthnagpmnoncijaaGreat.M
def S1:Sc:=(1,(1,((0,(0,(0,255))),([],([],([],[]))))))
theorem S1_small:small S1:=by
 unfold small bare;refine ⟨by intro d hd; simp [S1] at hd,by decide,by decide,by decide,by decide,by intro p hp; simp [S1] at hp⟩
theorem S1_chk:chk S1 = 0:=chk_d (x:=S1) ⟨by decide,by decide⟩ (by decide) (by decide) (by rintro ⟨v,hv,_⟩; cases hv) (by rintro ⟨v,hv,_⟩; cases hv) (by rintro ⟨v,hv,_⟩; cases hv)
theorem S1_tail (m:Nat):(obind (frags_New S1) fun q41=>
     obind (prepass_New S1.1 S1.2.1) fun q42=>
     bnd (F.mul .i64 S1.1 S1.2.1) fun v43=>
     bgd (F.fillOk 4 v43) (
      bnd (F.len q41.2.2.2.2.2.2.2.2.2.1) fun v44=>
      obind (frame_Render_i79_l2 (m + 5) (m + 5) q41.2.2.2.2.2.2.2.2.2.1 v44 0 1 8 S1.1 S1.2.1 S1.2.2.1.1 S1.2.2.1.2.1 S1.2.2.1.2.2.1 S1.2.2.1.2.2.2 S1.2.2.2.1 S1.2.2.2.2.1 S1.2.2.2.2.2.1 S1.2.2.2.2.2.2 1 8 q41.1 q41.2.1 q41.2.2.1 q41.2.2.2.1 q41.2.2.2.2.1 q41.2.2.2.2.2.1 q41.2.2.2.2.2.2.1 q41.2.2.2.2.2.2.2.1 q41.2.2.2.2.2.2.2.2.1 q41.2.2.2.2.2.2.2.2.2.1 S1.1 S1.2.1 S1.2.2.1.1 S1.2.2.1.2.1 S1.2.2.1.2.2.1 S1.2.2.1.2.2.2 S1.2.2.2.1 S1.2.2.2.2.1 S1.2.2.2.2.2.1 S1.2.2.2.2.2.2 q41.1 q41.2.1 q41.2.2.1 q41.2.2.2.1 q41.2.2.2.2.1 q41.2.2.2.2.2.1 q41.2.2.2.2.2.2.1 q41.2.2.2.2.2.2.2.1 q41.2.2.2.2.2.2.2.2.1 q41.2.2.2.2.2.2.2.2.2.1 q42.1 q42.2.1 S1.1 S1.2.1 S1.2.2.1.1 S1.2.2.1.2.1 S1.2.2.1.2.2.1 S1.2.2.1.2.2.2 S1.2.2.2.1 S1.2.2.2.2.1 S1.2.2.2.2.2.1 S1.2.2.2.2.2.2 1 8 S1.1 S1.2.1 (F.fill v43 (0,(0,(0,0)))) S1.1 S1.2.1) fun q45=>
      obind (frame_Tiles (m + 5) q45.2.2.2.2.2.2.2.2.2.2.2.2.2.2.2.2.2.2.2.2.2.2.2.2.1 q45.2.2.2.2.2.2.2.2.2.2.2.2.2.2.2.2.2.2.2.2.2.2.2.2.2.1 q45.2.1) fun q46=>
      bnd (F.len q46) fun v47=>
      obind (frame_Render_l1 (m + 5) (m + 5) q46 v47 0 q45.2.2.2.2.2.2.2.2.2.2.2.2.2.2.2.2.2.2.2.2.2.2.2.2.2.2.2.2.2.2.2.2.2.2.1 q45.2.2.2.2.2.2.2.2.2.2.2.2.2.2.2.2.2.2.2.2.2.2.2.2.2.2.2.2.2.2.2.2.2.2.2.1 q45.2.2.2.2.2.2.2.2.2.2.2.2.2.2.2.2.2.2.2.2.2.2.2.2.2.2.2.2.2.2.2.2.2.2.2.2.1 q45.2.2.2.2.2.2.2.2.2.2.2.2.2.2.2.2.2.2.2.2.2.2.2.2.2.2.2.2.2.2.2.2.2.2.2.2.2.1 q45.2.2.2.2.2.2.2.2.2.2.2.2.2.2.2.2.2.2.2.2.2.2.2.2.2.2.2.2.2.2.2.2.2.2.2.2.2.2.1 q45.2.2.2.2.2.2.2.2.2.2.2.2.2.2.2.2.2.2.2.2.2.2.2.2.2.2.2.2.2.2.2.2.2.2.2.2.2.2.2.1 q45.2.2.2.2.2.2.2.2.2.2.2.2.2.2.2.2.2.2.2.2.2.2.2.2.2.2.2.2.2.2.2.2.2.2.2.2.2.2.2.2.1 q45.2.2.2.2.2.2.2.2.2.2.2.2.2.2.2.2.2.2.2.2.2.2.2.2.2.2.2.2.2.2.2.2.2.2.2.2.2.2.2.2.2.2.2.1 q45.2.2.2.2.2.2.2.2.2.2.2.2.2.2.2.2.2.2.2.2.2.2.2.2.2.2.2.2.2.2.2.2.2.2.2.2.2.2.2.2.2.2.2.2.1 q45.2.2.2.2.2.2.2.2.2.2.2.2.2.2.2.2.2.2.2.2.2.2.2.2.2.2.2.2.2.2.2.2.2.2.2.2.2.2.2.2.2.2.2.2.2.1 q45.2.2.2.2.2.2.2.2.2.2.2.2.2.2.2.2.2.2.2.2.2.2.2.2.2.2.2.2.2.2.2.2.2.2.2.2.2.2.2.2.2.2.2.2.2.2.1 q45.2.2.2.2.2.2.2.2.2.2.2.2.2.2.2.2.2.2.2.2.2.2.2.2.2.2.2.2.2.2.2.2.2.2.2.2.2.2.2.2.2.2.2.2.2.2.2.1 q45.2.2.2.2.2.2.2.2.2.2.2.2.2.2.2.2.2.2.2.2.2.2.2.2.2.2.2.2.2.2.2.2.2.2.2.2.2.2.2.2.2.2.2.2.2.2.2.2.1 q45.2.2.2.2.2.2.2.2.2.2.2.2.2.2.2.2.2.2.2.2.2.2.2.2.2.2.2.2.2.2.2.2.2.2.2.2.2.2.2.2.2.2.2.2.2.2.2.2.2.1 q45.2.2.2.2.2.2.2.2.2.2.2.2.2.2.2.2.2.2.2.2.2.2.2.2.2.2.2.2.2.2.2.2.2.2.2.2.2.2.2.2.2.2.2.2.2.2.2.2.2.2.1 q45.2.2.2.2.2.2.2.2.2.2.2.2.2.2.2.2.2.2.2.2.2.2.2.2.2.2.2.2.2.2.2.2.2.2.2.2.2.2.2.2.2.2.2.2.2.2.2.2.2.2.2.1 q45.2.2.2.2.2.2.2.2.2.2.2.2.2.2.2.2.2.2.2.2.2.2.2.2.2.2.2.2.2.2.2.2.2.2.2.2.2.2.2.2.2.2.2.2.2.2.2.2.2.2.2.2.1 q45.2.2.2.2.2.2.2.2.2.2.2.2.2.2.2.2.2.2.2.2.2.2.2.2.2.2.2.2.2.2.2.2.2.2.2.2.2.2.2.2.2.2.2.2.2.2.2.2.2.2.2.2.2.2.2.1 q45.2.2.2.2.2.2.2.2.2.2.2.2.2.2.2.2.2.2.2.2.2.2.2.2.2.2.2.2.2.2.2.2.2.2.2.2.2.2.2.2.2.2.2.2.2.2.2.2.2.2.2.2.2.2.2.2.1 q45.2.2.2.2.2.2.2.2.2.2.2.2.2.2.2.2.2.2.2.2.2.2.2.2.2.2.2.2.2.2.2.2.2.2.2.2.2.2.2.2.2.2.2.2.2.2.2.2.2.2.2.2.2.2.2.2.2.1 q45.2.2.2.2.2.2.2.2.2.2.2.2.2.2.2.2.2.2.2.2.2.2.2.2.2.2.2.2.2.2.2.2.2.2.2.2.2.2.2.2.2.2.2.2.2.2.2.2.2.2.2.2.2.2.2.2.2.2.1 q45.2.2.2.2.2.2.2.2.2.2.2.2.2.2.2.2.2.2.2.2.2.2.2.2.2.2.2.2.2.2.2.2.2.2.2.2.2.2.2.2.2.2.2.2.2.2.2.2.2.2.2.2.2.2.2.2.2.2.2.1 q45.2.2.2.2.2.2.2.2.2.2.2.2.2.2.2.2.2.2.2.2.2.2.2.2.2.2.2.2.2.2.2.2.2.2.2.2.2.2.2.2.2.2.2.2.2.2.2.2.2.2.2.2.2.2.2.2.2.2.2.2.1 0 0 0) fun q48=>
      some ((q48.2.2.2.2.2.2.2.2.2.2.2.2.2.2.2.2.2.2.2.2.1,(q48.2.2.2.2.2.2.2.2.2.2.2.2.2.2.2.2.2.2.2.2.2.1,q48.2.2.2.2.2.2.2.2.2.2.2.2.2.2.2.2.2.2.2.2.2.2.1)),(([],(q48.2.2.2.2.2.2.2.2.2.2.2.2.2.2.2.2.2.2.2.2.2.2.2.1,(q48.2.2.2.2.2.2.2.2.2.2.2.2.2.2.2.2.2.2.2.2.2.2.2.2.1,(q48.2.2.2.2.2.2.2.2.2.2.2.2.2.2.2.2.2.2.2.2.2.2.2.2.2.1,(0,0))))),0)))) = some (((1,(1,[(0,(0,(0,255)))])),(([],(1,(0,(0,(0,0))))),0)):Res):=by
 rw [show frags_New S1 = some (1,(1,(0,(0,(0,(255,([],([],([],([],())))))))))) from rfl,ob_some,
  show prepass_New S1.1 S1.2.1 = some (1,(1,())) from rfl,ob_some,bnd_eq,show F.mul .i64 S1.1 S1.2.1 = 1 from rfl,show F.fillOk 4 1 = true from rfl,bgd_t,bnd_eq]
 refine (congrArg (fun z=>obind z _) (show frame_Render_i79_l2 (m + 5) (m + 5) (S1.2.2.2.2.2.2) 0 0 1 8 (S1.1) (S1.2.1) (S1.2.2.1.1) (S1.2.2.1.2.1) (S1.2.2.1.2.2.1) (S1.2.2.1.2.2.2) (S1.2.2.2.1) (S1.2.2.2.2.1) (S1.2.2.2.2.2.1) (S1.2.2.2.2.2.2) 1 8 (S1.1) (S1.2.1) (S1.2.2.1.1) (S1.2.2.1.2.1) (S1.2.2.1.2.2.1) (S1.2.2.1.2.2.2) (S1.2.2.2.1) (S1.2.2.2.2.1) (S1.2.2.2.2.2.1) (S1.2.2.2.2.2.2) (S1.1) (S1.2.1) (S1.2.2.1.1) (S1.2.2.1.2.1) (S1.2.2.1.2.2.1) (S1.2.2.1.2.2.2) (S1.2.2.2.1) (S1.2.2.2.2.1) (S1.2.2.2.2.2.1) (S1.2.2.2.2.2.2) (S1.1) (S1.2.1) (S1.2.2.1.1) (S1.2.2.1.2.1) (S1.2.2.1.2.2.1) (S1.2.2.1.2.2.2) (S1.2.2.2.1) (S1.2.2.2.2.1) (S1.2.2.2.2.2.1) (S1.2.2.2.2.2.2) (F.min (F.max S1.1 0) 64) (F.min (F.max S1.2.1 0) 64) (S1.1) (S1.2.1) (S1.2.2.1.1) (S1.2.2.1.2.1) (S1.2.2.1.2.2.1) (S1.2.2.1.2.2.2) (S1.2.2.2.1) (S1.2.2.2.2.1) (S1.2.2.2.2.2.1) (S1.2.2.2.2.2.2) 1 8 (S1.1) (S1.2.1) (F.fill (S1.1 * S1.2.1) (0,(0,(0,0)))) (S1.1) (S1.2.1) = some (1,(8,((S1.1),((S1.2.1),((S1.2.2.1.1),((S1.2.2.1.2.1),((S1.2.2.1.2.2.1),((S1.2.2.1.2.2.2),((S1.2.2.2.1),((S1.2.2.2.2.1),((S1.2.2.2.2.2.1),((S1.2.2.2.2.2.2),(1,(8,((S1.1),((S1.2.1),((S1.2.2.1.1),((S1.2.2.1.2.1),((S1.2.2.1.2.2.1),((S1.2.2.1.2.2.2),((S1.2.2.2.1),((S1.2.2.2.2.1),((S1.2.2.2.2.2.1),((S1.2.2.2.2.2.2),((S1.1),((S1.2.1),((S1.2.2.1.1),((S1.2.2.1.2.1),((S1.2.2.1.2.2.1),((S1.2.2.1.2.2.2),((S1.2.2.2.1),((S1.2.2.2.2.1),((S1.2.2.2.2.2.1),((S1.2.2.2.2.2.2),((S1.1),((S1.2.1),((S1.2.2.1.1),((S1.2.2.1.2.1),((S1.2.2.1.2.2.1),((S1.2.2.1.2.2.2),((S1.2.2.2.1),((S1.2.2.2.2.1),((S1.2.2.2.2.2.1),((S1.2.2.2.2.2.2),((F.min (F.max S1.1 0) 64),((F.min (F.max S1.2.1 0) 64),((S1.1),((S1.2.1),((S1.2.2.1.1),((S1.2.2.1.2.1),((S1.2.2.1.2.2.1),((S1.2.2.1.2.2.2),((S1.2.2.2.1),((S1.2.2.2.2.1),((S1.2.2.2.2.2.1),((S1.2.2.2.2.2.2),(1,(8,((S1.1),((S1.2.1),((F.fill (S1.1 * S1.2.1) (0,(0,(0,0)))),((S1.1),((S1.2.1),()))))))))))))))))))))))))))))))))))))))))))))))))))))))))))))))) from rfl)).trans ?_
 rw [ob_some];refine (congrArg (fun z=>obind z _) (show frame_Tiles (m + 5) S1.1 S1.2.1 8 = some [(0,(0,(1,1)))] from by kernel_rfl)).trans ?_
 rw [ob_some,bnd_eq,frame_Render_l1,bnd_eq,show F.lt 0 (F.len [((0:Int),((0:Int),((1:Int),(1:Int))))]) = true from rfl,bite_t,show F.get [((0:Int),((0:Int),((1:Int),(1:Int))))] 0 = some (0,(0,(1,1))) from rfl,ob_some,nilE_same]
 kernel_rfl
theorem shown_ok {fl:Nat} (hfl:6000 <= fl):glazierlaw23_shown fl = some true:=by
 obtain ⟨m,rfl⟩:∃ m,fl = m + 5:=⟨fl - 5,by omega⟩
 unfold glazierlaw23_shown;obtain ⟨f,h1,h2,e⟩:=render_at (fl:=m + 5) (x:=S1) (room:=1) (tile:=8) ⟨by decide,by decide⟩
 rw [code_check (by omega) S1_small,ob_some,S1_chk,h2,S1_tail m] at e
 refine (congrArg (fun z=>obind z _) e).trans ?_
 kernel_rfl
noncomputable def fin (fl:Nat) (r:Res) (w Wd H:Int):Option Bool:=
   obind (glazierlaw23_same fl r.1 (0,(0,[]))) fun q19=>
      obind (glazierlaw23_alike fl r.2.1 ([],(0,(0,(0,(0,0)))))) fun q20=>
      bite true (
       bnd (F.eq r.2.2 w) fun v21=>
       bite v21 (
        bnd (F.eq r.2.2 0) fun v22=>
        bite v22 (
         bnd (F.ne r.2.2 0) fun v23=>
         bite v23 (
          some true) (
          bnd (F.len r.1.2.2) fun v24=>
          bnd (F.mul .i64 Wd H) fun v25=>
          bnd (F.eq v24 v25) fun v26=>
          bite v26 (
           bnd (F.eq r.2.1.2.2.2.2.1 0) fun v27=>
           some v27) (
           some false))) (
         bite q19 (
          bite q20 (
           bnd (F.ne r.2.2 0) fun v28=>
           bite v28 (
            some true) (
            bnd (F.len r.1.2.2) fun v29=>
            bnd (F.mul .i64 Wd H) fun v30=>
            bnd (F.eq v29 v30) fun v31=>
            bite v31 (
             bnd (F.eq r.2.1.2.2.2.2.1 0) fun v32=>
             some v32) (
             some false))) (
           some false)) (
          some false))) (
        some false)) (
       some false)
theorem same_no (fl:Nat) (px:List (Int × Int × Int × Int)) (a b:Int):∃ z,glazierlaw23_same (fl + 1) (a,(b,px)) (0,(0,[])) = some z:=by
 unfold glazierlaw23_same glazierref02_Same;simp only [bnd_eq];cases px with
 | nil=>
  rw [show F.ne (F.len ([]:List (Int × Int × Int × Int))) (F.len ([]:List (Int × Int × Int × Int))) = false from rfl,bite_f];cases h1:F.eq a 0 <;> exact ⟨_,rfl⟩
 | cons c l=>
  rw [ne_t (by simp only [lenK,List.length_cons,List.length_nil]; omega),bite_t]
  exact ⟨_,rfl⟩
theorem alike_no (fl:Nat) (p l r m s:Int):∃ z,glazierlaw23_alike (fl + 1) ([],(p,(l,(r,(m,s))))) ([],(0,(0,(0,(0,0))))) = some z:=by
 unfold glazierlaw23_alike;rw [show glazierref03_Same (fl + 1) [] [] = some true from rfl,ob_some,bite_t];simp only [bnd_eq];cases F.eq p 0 <;> cases F.eq l 0 <;> cases F.eq r 0 <;> cases F.eq m 0 <;> exact ⟨_,rfl⟩
theorem fin_no (fl:Nat) {e:Int} (he:e ≠ 0) (Wd H:Int):fin (fl + 1) (resNo e) e Wd H = some true:=by
 unfold fin
 rw [show glazierlaw23_same (fl + 1) (resNo e).1 (0,(0,[])) = some true from rfl,ob_some,show glazierlaw23_alike (fl + 1) (resNo e).2.1 ([],(0,(0,(0,(0,0))))) = some true from rfl,ob_some,bite_t,bnd_eq,bnd_eq,
  show F.eq (resNo e).2.2 e = true from eq_t rfl,bite_t,show F.eq (resNo e).2.2 0 = false from eq_f he,bite_f,bite_t,bite_t,bnd_eq,show F.ne (resNo e).2.2 0 = true from ne_t he,bite_t]
theorem fin_ok (fl:Nat) {px:List (Int × Int × Int × Int)} {p l r Wd H:Int} (h0:0 <= Wd * H /\ Wd * H <= 10000) (hp:px.length = (Wd * H).toNat):fin (fl + 1) ((Wd,(H,px)),(([],(p,(l,(r,(0,0))))),0)) 0 Wd H = some true:=by
 unfold fin;obtain ⟨z,e1⟩:=same_no fl px Wd H;obtain ⟨z',e2⟩:=alike_no fl p l r 0 0;refine (congrArg (fun z=>obind z _) e1).trans ?_
 rw [ob_some];refine (congrArg (fun z=>obind z _) e2).trans ?_
 rw [ob_some,bite_t,bnd_eq,eq_t rfl,bite_t,bnd_eq,bite_t,bnd_eq,ne_f rfl,bite_f,bnd_eq,bnd_eq,mulI (by omega),bnd_eq,lenK,eq_t (by dsimp only; omega),bite_t,bnd_eq]
noncomputable def nest (fl:Nat) (r:Res) (w Wd H room tile:Int):Option Bool:=
 bite (F.lt room 1) (fin fl r 1 Wd H) (bite (F.gt room 65536) (fin fl r 1 Wd H) (bite (F.ne tile 8) (bite (F.ne tile 16) (bite (F.ne tile 32) (bite (F.ne tile 64) (fin fl r 1 Wd H) (fin fl r w Wd H)) (fin fl r w Wd H)) (fin fl r w Wd H)) (fin fl r w Wd H)))
theorem nest_ok {fl:Nat} {r:Res} {w Wd H room tile:Int} (h:argOk room tile):nest fl r w Wd H room tile = fin fl r w Wd H:=by
 unfold argOk at h;unfold nest;rw [lt_f (by omega),bite_f,gt_f (by omega),bite_f]
 rcases h.2 with rfl | rfl | rfl | rfl <;> rfl
theorem nest_no {fl:Nat} {r:Res} {w Wd H room tile:Int} (h:¬ argOk room tile):nest fl r w Wd H room tile = fin fl r 1 Wd H:=by
 unfold nest;by_cases h1:room < 1
 ·rw [lt_t h1,bite_t]
 rw [lt_f (by omega),bite_f]
 by_cases h2:65536 < room
 ·rw [gt_t h2,bite_t]
 unfold argOk at h;rw [gt_f (by omega),bite_f,ne_t (by omega),bite_t,ne_t (by omega),bite_t,ne_t (by omega),bite_t,ne_t (by omega),bite_t]
theorem core {fl:Nat} (hfl:6000 <= fl) {x:Sc} (hx:small x) (room tile:Int):(obind (frame_Render fl x room tile) fun r=>obind (glazierref14_Check fl x) fun w=>nest fl r w x.1 x.2.1 room tile) = some true:=by
 obtain ⟨m,hm⟩:∃ m,fl = m + 1:=⟨fl - 1,by omega⟩
 by_cases ha:argOk room tile
 case neg=>rw [render_no ha,ob_some,ref_check (by omega) hx,ob_some,nest_no ha,hm,fin_no m (by decide)]
 by_cases hc:chk x = 0
 case neg=>rw [render_chk (by omega) ha hx hc,ob_some,ref_check (by omega) hx,ob_some,nest_ok ha,hm,fin_no m hc]
 have hs:scr x:=Classical.byContradiction fun k=>by rw [chk_scr k] at hc; omega
 obtain ⟨hw,hh⟩:=hs;have hm':1 * 1 <= x.1 * x.2.1 /\ x.1 * x.2.1 <= 64 * 64:=⟨Int.mul_le_mul (by omega) (by omega) (by omega) (by omega),Int.mul_le_mul (by omega) (by omega) (by omega) (by omega)⟩
 obtain ⟨px,p,l,r,hp,e⟩:=render_ok hfl ha hx hc;rw [e,ob_some,ref_check (by omega) hx,ob_some,nest_ok ha,hc,hm,fin_ok m (by omega) hp]
theorem small_texs (fl:Nat) (x1:Int) (x2:Int) (x3:Bool) (x4:Int) (x5:Int) (x6:Int) (x7:Int) (x8:Int) (x9:Int) (x10:T2) (x11:T5) (x12:T4) (x13:(List T1)) (x14:Int) (x15:Int) (x16:Int) (x17:Int) (x18:Int) (x19:Int) (x20:T2) (x22:T4) (x23:(List T1)) (x24:Int) (x25:Int) (x26:Int) (x27:Int) (x28:Int) (x29:Int) (x30:T2) (x31:T5) (x32:T4) (x33:(List T1)):∀ (k n i:Nat) (x21:T5),i + k = 5 -> k + 1 <= n -> x21.length = i ->
  ∃ z:T5,z.length <= 5 /\ glazierlaw23_FrameRefuses_i6_l1 fl n (i:Int) x1 x2 x3 x4 x5 x6 x7 x8 x9 x10 x11 x12 x13 x14 x15 x16 x17 x18 x19 x20 x21 x22 x23 x24 x25 x26 x27 x28 x29 x30 x31 x32 x33 = some (x1,(x2,(x3,(x4,(x5,(x6,(x7,(x8,(x9,(x10,(x11,(x12,(x13,(x14,(x15,(x16,(x17,(x18,(x19,(x20,(z,(x22,(x23,(x24,(x25,(x26,(x27,(x28,(x29,(x30,(x31,(x32,(x33,())))))))))))))))))))))))))))))))))
 | 0,n,i,x21,hk,hn,hl=>by
  obtain ⟨n,rfl⟩:∃ m,n = m + 1:=⟨n - 1,by omega⟩
  refine ⟨x21,by omega,?_⟩
  rw [glazierlaw23_FrameRefuses_i6_l1,bnd_eq,bnd_eq,bnd_eq,lt_f (b:=5) (by omega),bite_f]
  cases F.lt (i:Int) (F.len x11) <;> rfl
 | k + 1,n,i,x21,hk,hn,hl=>by
  obtain ⟨n,rfl⟩:∃ m,n = m + 1:=⟨n - 1,by omega⟩
  by_cases hc:i < x11.length
  case neg=>
   refine ⟨x21,by omega,?_⟩
   rw [glazierlaw23_FrameRefuses_i6_l1,bnd_eq,bnd_eq,lenK,lt_f (by omega),bite_f]
  have hmin:F.min (x11[i].2.2.length:Int) 260 = min (x11[i].2.2.length:Int) 260:=f_min;obtain ⟨z,hz,e⟩:=small_texs fl x1 x2 x3 x4 x5 x6 x7 x8 x9 x10 x11 x12 x13 x14 x15 x16 x17 x18 x19 x20 x22 x23 x24 x25 x26 x27 x28 x29 x30 x31 x32 x33 k n (i + 1) (F.app x21 [(x11[i].1,(x11[i].2.1,F.app [] (F.cut x11[i].2.2 0 (F.min (x11[i].2.2.length:Int) 260))))]) (by omega) (by omega) (by rw [appK]; simp [hl])
  have hcl:(F.cut x11[i].2.2 0 (F.min (x11[i].2.2.length:Int) 260)).length <= 260:=by unfold F.cut; simp only [Int.toNat_zero,List.drop_zero,List.length_take]; rw [hmin]; omega
  refine ⟨z,hz,?_⟩
  rw [glazierlaw23_FrameRefuses_i6_l1,bnd_eq,bnd_eq,lenK,lt_t (by omega),bite_t,bnd_eq,lt_t (by omega),bite_t,lgetK hc,ob_some,bnd_eq,lenK,bnd_eq,
   show F.cutOk x11[i].2.2 0 (F.min (x11[i].2.2.length:Int) 260) = true by unfold F.cutOk; rw [hmin,decide_eq_true (by omega),decide_eq_true (by omega),decide_eq_true (by omega)]; rfl,bgd_t,bnd_eq,appOk_t (by simp only [List.length_nil]; omega) (by decide),bgd_t,bnd_eq,
   appOk_t (by simp only [List.length_singleton]; omega) (by decide),bgd_t,bnd_eq,bnd_eq,addI (by omega)]
  exact e
theorem small_progs (fl:Nat) (x1:Int) (x2:Int) (x3:Bool) (x4:Int) (x5:Int) (x6:Int) (x7:Int) (x8:Int) (x9:Int) (x10:T2) (x11:T5) (x12:T4) (x13:(List T1)) (x14:Int) (x15:Int) (x16:Int) (x17:Int) (x18:Int) (x19:Int) (x20:T2) (x21:T5) (x23:(List T1)) (x24:Int) (x25:Int) (x26:Int) (x27:Int) (x28:Int) (x29:Int) (x30:T2) (x31:T5) (x32:T4) (x33:(List T1)) (hp:∀ q ∈ x12,progs q):∀ (k n i:Nat) (x22:T4),i + k = 5 -> k + 1 <= n -> x22.length = i -> (∀ q ∈ x22,q.length <= 100 /\ progs q) ->
  ∃ z:T4,(z.length <= 5 /\ ∀ q ∈ z,q.length <= 100 /\ progs q) /\ glazierlaw23_FrameRefuses_i6_l2 fl n (i:Int) x1 x2 x3 x4 x5 x6 x7 x8 x9 x10 x11 x12 x13 x14 x15 x16 x17 x18 x19 x20 x21 x22 x23 x24 x25 x26 x27 x28 x29 x30 x31 x32 x33 = some (x1,(x2,(x3,(x4,(x5,(x6,(x7,(x8,(x9,(x10,(x11,(x12,(x13,(x14,(x15,(x16,(x17,(x18,(x19,(x20,(x21,(z,(x23,(x24,(x25,(x26,(x27,(x28,(x29,(x30,(x31,(x32,(x33,())))))))))))))))))))))))))))))))))
 | 0,n,i,x22,hk,hn,hl,hq=>by
  obtain ⟨n,rfl⟩:∃ m,n = m + 1:=⟨n - 1,by omega⟩
  refine ⟨x22,⟨by omega,hq⟩,?_⟩
  rw [glazierlaw23_FrameRefuses_i6_l2,bnd_eq,bnd_eq,bnd_eq,lt_f (b:=5) (by omega),bite_f]
  cases F.lt (i:Int) (F.len x12) <;> rfl
 | k + 1,n,i,x22,hk,hn,hl,hq=>by
  obtain ⟨n,rfl⟩:∃ m,n = m + 1:=⟨n - 1,by omega⟩
  by_cases hc:i < x12.length
  case neg=>
   refine ⟨x22,⟨by omega,hq⟩,?_⟩
   rw [glazierlaw23_FrameRefuses_i6_l2,bnd_eq,bnd_eq,lenK,lt_f (by omega),bite_f]
  have hmin:F.min (x12[i].length:Int) 34 = min (x12[i].length:Int) 34:=f_min;have hcl:(F.cut x12[i] 0 (F.min (x12[i].length:Int) 34)).length <= 34:=by unfold F.cut; simp only [Int.toNat_zero,List.drop_zero,List.length_take]; rw [hmin]; omega
  obtain ⟨z,hz,e⟩:=small_progs fl x1 x2 x3 x4 x5 x6 x7 x8 x9 x10 x11 x12 x13 x14 x15 x16 x17 x18 x19 x20 x21 x23 x24 x25 x26 x27 x28 x29 x30 x31 x32 x33 hp k n (i + 1) (F.app x22 [F.app [] (F.cut x12[i] 0 (F.min (x12[i].length:Int) 34))]) (by omega) (by omega) (by rw [appK]; simp [hl]) (fun q hq'=>by
   rw [appK] at hq';rcases List.mem_append.1 hq' with h | h
   ·exact hq q h
   ·rw [List.mem_singleton.1 h,appK,List.nil_append];refine ⟨by omega,fun y hy=>hp _ (List.getElem_mem hc) y ?_⟩
    unfold F.cut at hy
    exact List.mem_of_mem_take (List.mem_of_mem_drop hy))
  refine ⟨z,hz,?_⟩;have hok:F.cutOk x12[i] 0 (F.min (x12[i].length:Int) 34) = true:=by unfold F.cutOk; rw [hmin,decide_eq_true (by omega),decide_eq_true (by omega),decide_eq_true (by omega)]; rfl
  rw [glazierlaw23_FrameRefuses_i6_l2,bnd_eq,bnd_eq,lenK,lt_t (by omega),bite_t,bnd_eq,lt_t (by omega),bite_t,lgetK hc,ob_some,ob_some,bnd_eq,lenK,bnd_eq,hok,bgd_t,bnd_eq,appOk_t (by simp only [List.length_nil]; omega) (by decide),bgd_t,
   ob_some,ob_some,bnd_eq,lenK,bnd_eq,hok,bgd_t,bnd_eq,appOk_t (by simp only [List.length_nil]; omega) (by decide),bgd_t,bnd_eq,
   appOk_t (by simp only [List.length_singleton]; omega) (by decide),bgd_t,bnd_eq,bnd_eq,addI (by omega)]
  exact e
theorem small_draws (fl:Nat) (x1:Int) (x2:Int) (x3:Bool) (x4:Int) (x5:Int) (x6:Int) (x7:Int) (x8:Int) (x9:Int) (x10:T2) (x11:T5) (x12:T4) (x13:(List T1)) (x14:Int) (x15:Int) (x16:Int) (x17:Int) (x18:Int) (x19:Int) (x20:T2) (x21:T5) (x22:T4) (x24:Int) (x25:Int) (x26:Int) (x27:Int) (x28:Int) (x29:Int) (x30:T2) (x31:T5) (x32:T4) (x33:(List T1)):∀ (k n i:Nat) (x23:(List T1)),i + k = 9 -> k + 1 <= n -> x23.length = i ->
  ∃ z:(List T1),z.length <= 9 /\ glazierlaw23_FrameRefuses_i6_l3 fl n (i:Int) x1 x2 x3 x4 x5 x6 x7 x8 x9 x10 x11 x12 x13 x14 x15 x16 x17 x18 x19 x20 x21 x22 x23 x24 x25 x26 x27 x28 x29 x30 x31 x32 x33 = some (x1,(x2,(x3,(x14,(x15,(x16,(x17,(x18,(x19,(x20,(x21,(x22,(z,(x24,(x25,(x26,(x27,(x28,(x29,(x30,(x31,(x32,(x33,())))))))))))))))))))))))
 | 0,n,i,x23,hk,hn,hl=>by
  obtain ⟨n,rfl⟩:∃ m,n = m + 1:=⟨n - 1,by omega⟩
  refine ⟨x23,by omega,?_⟩
  rw [glazierlaw23_FrameRefuses_i6_l3,bnd_eq,bnd_eq,bnd_eq,lt_f (b:=9) (by omega),bite_f]
  cases F.lt (i:Int) (F.len x13) <;> rfl
 | k + 1,n,i,x23,hk,hn,hl=>by
  obtain ⟨n,rfl⟩:∃ m,n = m + 1:=⟨n - 1,by omega⟩
  by_cases hc:i < x13.length
  case neg=>
   refine ⟨x23,by omega,?_⟩
   rw [glazierlaw23_FrameRefuses_i6_l3,bnd_eq,bnd_eq,lenK,lt_f (by omega),bite_f]
  have hmin:F.min (x13[i].2.2.2.2.length:Int) 34 = min (x13[i].2.2.2.2.length:Int) 34:=f_min;have hcl:(F.cut x13[i].2.2.2.2 0 (F.min (x13[i].2.2.2.2.length:Int) 34)).length <= 34:=by unfold F.cut; simp only [Int.toNat_zero,List.drop_zero,List.length_take]; rw [hmin]; omega
  obtain ⟨z,hz,e⟩:=small_draws fl x1 x2 x3 x4 x5 x6 x7 x8 x9 x10 x11 x12 x13 x14 x15 x16 x17 x18 x19 x20 x21 x22 x24 x25 x26 x27 x28 x29 x30 x31 x32 x33 k n (i + 1) (F.app x23 [(x13[i].1,(x13[i].2.1,(x13[i].2.2.1,(x13[i].2.2.2.1,F.app [] (F.cut x13[i].2.2.2.2 0 (F.min (x13[i].2.2.2.2.length:Int) 34))))))]) (by omega) (by omega) (by rw [appK]; simp [hl])
  refine ⟨z,hz,?_⟩;have hok:F.cutOk x13[i].2.2.2.2 0 (F.min (x13[i].2.2.2.2.length:Int) 34) = true:=by unfold F.cutOk; rw [hmin,decide_eq_true (by omega),decide_eq_true (by omega),decide_eq_true (by omega)]; rfl
  rw [glazierlaw23_FrameRefuses_i6_l3,bnd_eq,bnd_eq,lenK,lt_t (by omega),bite_t,bnd_eq,lt_t (by omega),bite_t,lgetK hc,ob_some,bnd_eq,lenK,bnd_eq,hok,bgd_t,bnd_eq,appOk_t (by simp only [List.length_nil]; omega) (by decide),bgd_t,bnd_eq,
   appOk_t (by simp only [List.length_singleton]; omega) (by decide),bgd_t,bnd_eq,bnd_eq,addI (by omega)]
  exact e
theorem bare_draws (fl:Nat) (x0:Int) (x1:Int) (x2:Bool) (x4:Int) (x5:Int) (x6:Int) (x7:Int) (x8:Int) (x9:Int) (x10:T2) (x11:T5) (x12:T4):∀ (k n i:Nat) (x13:(List T1)),i + k = x13.length -> k + 1 <= n -> x13.length <= 100 -> (∀ (j:Nat) (h:j < x13.length),j < i -> x13[j].2.2.2.2 = []) ->
  ∃ z:(List T1),(z.length = x13.length /\ bare z) /\ glazierlaw23_FrameRefuses_l1 fl n x0 x1 x2 (i:Int) x4 x5 x6 x7 x8 x9 x10 x11 x12 x13 = some (x0,(x1,(x2,(x4,(x5,(x6,(x7,(x8,(x9,(x10,(x11,(x12,(z,())))))))))))))
 | 0,n,i,x13,hk,hn,hl,hb=>by
  obtain ⟨n,rfl⟩:∃ m,n = m + 1:=⟨n - 1,by omega⟩
  refine ⟨x13,⟨rfl,fun d hd=>?_⟩,?_⟩
  ·obtain ⟨j,hj,rfl⟩:=List.getElem_of_mem hd;exact hb j hj (by omega)
  ·rw [glazierlaw23_FrameRefuses_l1,bnd_eq,bnd_eq,lenK,lt_f (by omega),bite_f]
 | k + 1,n,i,x13,hk,hn,hl,hb=>by
  obtain ⟨n,rfl⟩:∃ m,n = m + 1:=⟨n - 1,by omega⟩
  have hc:i < x13.length:=by omega
  have hln:(F.put x13 (i:Int) (x13[i].1,(x13[i].2.1,(x13[i].2.2.1,(x13[i].2.2.2.1,[]))))).length = x13.length:=List.length_set
  obtain ⟨z,hz,e⟩:=bare_draws fl x0 x1 x2 x4 x5 x6 x7 x8 x9 x10 x11 x12 k n (i + 1) (F.put x13 (i:Int) (x13[i].1,(x13[i].2.1,(x13[i].2.2.1,(x13[i].2.2.2.1,[]))))) (by omega) (by omega) (by omega) (fun j hj hji=>by
   have hj':j < (x13.set i (x13[i].1,(x13[i].2.1,(x13[i].2.2.1,(x13[i].2.2.2.1,[]))))).length:=hj;show ((x13.set i (x13[i].1,(x13[i].2.1,(x13[i].2.2.1,(x13[i].2.2.2.1,[])))))[j]'hj').2.2.2.2 = [];rw [List.getElem_set];split
   ·rfl
   ·next h=>exact hb j (by omega) (by omega))
  refine ⟨z,⟨hz.1.trans hln,hz.2⟩,?_⟩;rw [glazierlaw23_FrameRefuses_l1,bnd_eq,bnd_eq,lenK,lt_t (by omega),bite_t,show F.has x13 (i:Int) = true by unfold F.has; rw [decide_eq_true (by omega),decide_eq_true (by omega)]; rfl,bgd_t,lgetK hc,ob_some,bnd_eq,bnd_eq,addI (by omega)]
  exact e
end Go.Proofs.YthnagpmnoncijaaGreat.G
namespace Go.Proofs.YthnagpmnoncijaaGreat.frameRefuses
open Go Go.RowKit Go.Proofs.YthnagpmnoncijaaGreat.M Go.Proofs.YthnagpmnoncijaaGreat.G
abbrev ScnT:Ty:=(.pair (.int .i64) (.pair (.int .i64) (.pair (.pair (.int .u8) (.pair (.int .u8) (.pair (.int .u8) (.int .u8)))) (.pair (.list (.pair (.int .i64) (.pair (.int .i64) (.pair (.int .i64) (.pair (.int .i64) (.pair (.int .i64) (.pair (.int .i64) (.pair (.int .i64) (.int .i64))))))))) (.pair (.list (.pair (.int .i64) (.pair (.int .i64) (.list (.pair (.int .u8) (.pair (.int .u8) (.pair (.int .u8) (.int .u8)))))))) (.pair (.list (.list (.pair (.int .u8) (.pair (.int .u8) (.pair (.int .u8) (.pair (.int .u8) (.int .i64))))))) (.list (.pair (.int .i64) (.pair (.int .i64) (.pair (.int .i64) (.pair .bool (.list (.pair (.int .i64) (.pair (.int .i64) (.pair (.int .i64) (.int .i64))))))))))))))))
theorem law0 (x:Sc) (room tile:Int) (hp:∀ q ∈ x.2.2.2.2.2.1,progs q):glazierlaw23_FrameRefuses 6000 x room tile = some true:=by
 have hmin:F.min (x.2.2.2.1.length:Int) 66 = min (x.2.2.2.1.length:Int) 66:=f_min;have hok:F.cutOk x.2.2.2.1 0 (F.min (x.2.2.2.1.length:Int) 66) = true:=by unfold F.cutOk; rw [hmin,decide_eq_true (by omega),decide_eq_true (by omega),decide_eq_true (by omega)]; rfl
 have hcl:(F.cut x.2.2.2.1 0 (F.min (x.2.2.2.1.length:Int) 66)).length <= 66:=by unfold F.cut; simp only [Int.toNat_zero,List.drop_zero,List.length_take]; rw [hmin]; omega
 unfold glazierlaw23_FrameRefuses;rw [shown_ok (by decide),ob_some,bnd_eq,lenK,bnd_eq,hok,bgd_t,bnd_eq,appOk_t (by simp only [List.length_nil]; omega) (by decide),bgd_t,bnd_eq,appK,List.nil_append]
 generalize F.cut x.2.2.2.1 0 (F.min (x.2.2.2.1.length:Int) 66) = vs at hcl ⊢;obtain ⟨z1,h1,e1⟩:=small_texs 6000 room tile true (x.1) (x.2.1) (x.2.2.1.1) (x.2.2.1.2.1) (x.2.2.1.2.2.1) (x.2.2.1.2.2.2) (x.2.2.2.1) (x.2.2.2.2.1) (x.2.2.2.2.2.1) (x.2.2.2.2.2.2) (x.1) (x.2.1) (x.2.2.1.1) (x.2.2.1.2.1) (x.2.2.1.2.2.1) (x.2.2.1.2.2.2) vs (x.2.2.2.2.2.1) (x.2.2.2.2.2.2) (x.1) (x.2.1) (x.2.2.1.1) (x.2.2.1.2.1) (x.2.2.1.2.2.1) (x.2.2.1.2.2.2) (x.2.2.2.1) (x.2.2.2.2.1) (x.2.2.2.2.2.1) (x.2.2.2.2.2.2) 5 6000 0 [] rfl (by decide) rfl
 rw [show ((0:Nat):Int) = 0 from rfl] at e1;refine (congrArg (fun z=>obind z _) e1).trans ?_
 rw [ob_some];obtain ⟨z2,⟨h2,h2'⟩,e2⟩:=small_progs 6000 room tile true (x.1) (x.2.1) (x.2.2.1.1) (x.2.2.1.2.1) (x.2.2.1.2.2.1) (x.2.2.1.2.2.2) (x.2.2.2.1) (x.2.2.2.2.1) (x.2.2.2.2.2.1) (x.2.2.2.2.2.2) (x.1) (x.2.1) (x.2.2.1.1) (x.2.2.1.2.1) (x.2.2.1.2.2.1) (x.2.2.1.2.2.2) vs z1 (x.2.2.2.2.2.2) (x.1) (x.2.1) (x.2.2.1.1) (x.2.2.1.2.1) (x.2.2.1.2.2.1) (x.2.2.1.2.2.2) (x.2.2.2.1) (x.2.2.2.2.1) (x.2.2.2.2.2.1) (x.2.2.2.2.2.2) hp 5 6000 0 [] rfl (by decide) rfl (fun q hq=>by cases hq)
 rw [show ((0:Nat):Int) = 0 from rfl] at e2;refine (congrArg (fun z=>obind z _) e2).trans ?_
 rw [ob_some];obtain ⟨z3,h3,e3⟩:=small_draws 6000 room tile true (x.1) (x.2.1) (x.2.2.1.1) (x.2.2.1.2.1) (x.2.2.1.2.2.1) (x.2.2.1.2.2.2) (x.2.2.2.1) (x.2.2.2.2.1) (x.2.2.2.2.2.1) (x.2.2.2.2.2.2) (x.1) (x.2.1) (x.2.2.1.1) (x.2.2.1.2.1) (x.2.2.1.2.2.1) (x.2.2.1.2.2.2) vs z1 z2 (x.1) (x.2.1) (x.2.2.1.1) (x.2.2.1.2.1) (x.2.2.1.2.2.1) (x.2.2.1.2.2.2) (x.2.2.2.1) (x.2.2.2.2.1) (x.2.2.2.2.2.1) (x.2.2.2.2.2.2) 9 6000 0 [] rfl (by decide) rfl
 rw [show ((0:Nat):Int) = 0 from rfl] at e3;refine (congrArg (fun z=>obind z _) e3).trans ?_
 rw [ob_some];obtain ⟨z4,⟨h4,h4'⟩,e4⟩:=bare_draws 6000 room tile true (x.1) (x.2.1) (x.2.2.1.1) (x.2.2.1.2.1) (x.2.2.1.2.2.1) (x.2.2.1.2.2.2) vs z1 z2 z3.length 6000 0 z3 (by omega) (by omega) (by omega) (fun j _ h=>by omega)
 rw [show ((0:Nat):Int) = 0 from rfl] at e4;refine (congrArg (fun z=>obind z _) e4).trans ?_
 rw [ob_some];have hs:small ((x.1,(x.2.1,((x.2.2.1.1,(x.2.2.1.2.1,(x.2.2.1.2.2.1,x.2.2.1.2.2.2))),(vs,(z1,(z2,z4)))))):Sc):=⟨h4',by dsimp only; omega,by dsimp only; omega,by dsimp only; omega,by dsimp only; omega,h2'⟩
 have co:=fun r=>core (fl:=6000) (by decide) hs r tile
 dsimp only;rw [bnd_eq];by_cases a:1 <= room
 ·rw [ge_t a,bite_t,bnd_eq];by_cases c:room <= 65536
  ·rw [le_t c,bite_t];exact co _
  ·rw [le_f (by omega),bite_f]
   exact co _
 ·rw [ge_f (by omega),bite_f]
  exact co _
theorem law (x0:ScnT.T) (x1 x2:Int) (h0:okT ScnT x0) (h1:okT (.int .i64) x1) (h2:okT (.int .i64) x2):∃ fl,glazierlaw23_FrameRefuses fl x0 x1 x2 = some true:=by
 refine ⟨6000,law0 x0 x1 x2 fun q hq=>?_⟩
 obtain ⟨-,-,-,-,-,hp,-⟩:=h0;intro y hy;obtain ⟨a,b,c,d,e⟩:=(hp.2 q hq).2 y hy;exact ⟨inR_u8.1 a,inR_u8.1 b,inR_u8.1 c,inR_u8.1 d,inR_i64.1 e⟩
end Go.Proofs.YthnagpmnoncijaaGreat.frameRefuses
