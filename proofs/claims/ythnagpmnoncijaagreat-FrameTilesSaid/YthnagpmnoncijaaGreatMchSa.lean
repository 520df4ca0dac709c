/- A part of the proof. -/
import Derived.Test.YthnagpmnoncijaaGreatMchS
set_option linter.unusedVariables false
namespace Go.Proofs.YthnagpmnoncijaaGreat.M
open Go Go.RowKit
theorem Cnd.and_sound {c d:Cnd} (h:(c.and d).P):c.P /\ d.P:=by
 cases c <;> cases d <;> simp [Cnd.and,Cnd.P,F.both] at h ⊢ <;> exact h
theorem sameV_sound {x y:Value} {c:Cnd} (h:sameV x y = some c) (hc:c.P):x = y:=by
 unfold sameV at h;split at h
 ·split at h
  ·rename_i hk;subst hk;injection h with h;subst h;simp [Cnd.P,F.eq] at hc;rw [hc]
  ·cases h
 ·injection h with h;subst h;simp [Cnd.P,F.beq] at hc;rw [hc]
 ·cases h
theorem sameCell_sound {cx:Ctx} {p p':Place} {x y:Cell} {u v:Value} {c:Cnd} (h:sameCell x y = some c) (hc:c.P) (hx:CV cx p x u) (hy:CV cx p' y v):u = v:=by
 unfold sameCell at h;split at h
 ·rw [show u = _ from hx,show v = _ from hy]; exact sameV_sound h hc
 ·rw [show u = _ from hx,show v = _ from hy]; exact sameV_sound h hc
 ·rw [show u = _ from hx,show v = _ from hy]; exact sameV_sound h hc
 ·rw [show u = _ from hx,show v = _ from hy]; exact sameV_sound h hc
 ·rw [show u = _ from hx,show v = _ from hy]
 ·split at h
  ·rename_i he;rw [Bool.and_eq_true] at he;rw [show u = _ from hx,show v = _ from hy,Nat.eq_of_beq_eq_true he.1,Nat.eq_of_beq_eq_true he.2]
  ·cases h
 ·split at h
  ·rename_i he;rw [Bool.and_eq_true] at he;have h1:=hx.1;have h2:=hy.1;rw [Nat.eq_of_beq_eq_true he.1,Nat.eq_of_beq_eq_true he.2,h2] at h1;injection h1 with h1;exact h1.symm
  ·cases h
 ·cases h
theorem sameCells_sound {cx:Ctx} {pl pl':Nat -> Place}:∀ {xs ys:List Cell} {us vs:List Value} {c:Cnd} (n:Nat),sameCells xs ys = some c -> c.P -> us.length = xs.length -> vs.length = ys.length ->
  (∀ i x u,xs[i]? = some x -> us[i]? = some u -> CV cx (pl (n + i)) x u) -> (∀ i y v,ys[i]? = some y -> vs[i]? = some v -> CV cx (pl' (n + i)) y v) -> us = vs
 | [],[],us,vs,c,n,h,hc,h1,h2,h3,h4=>by
  rw [List.length_eq_zero_iff.1 h1,List.length_eq_zero_iff.1 h2]
 | x :: xs,y :: ys,u :: us,v :: vs,c,n,h,hc,h1,h2,h3,h4=>by
  simp only [sameCells] at h;split at h
  ·rename_i c1 c2 e1 e2;injection h with h;subst h;obtain ⟨k1,k2⟩:=Cnd.and_sound hc;rw [sameCell_sound e1 k1 (h3 0 x u rfl rfl) (h4 0 y v rfl rfl)]
   have ht:us = vs:=sameCells_sound (pl:=pl) (pl':=pl') (n + 1) e2 k2 (by simpa using h1) (by simpa using h2) (fun i x u hx hu=>by
    have:=h3 (i + 1) x u hx hu;rw [show n + 1 + i = n + (i + 1) by omega]; exact this) (fun i x u hx hu=>by
    have:=h4 (i + 1) x u hx hu
    rw [show n + 1 + i = n + (i + 1) by omega]; exact this)
   rw [ht]
  ·cases h
 | [],y :: ys,us,vs,c,n,h,_,_,_,_,_=>by simp [sameCells] at h
 | x :: xs,[],us,vs,c,n,h,_,_,_,_,_=>by simp [sameCells] at h
 | x :: xs,y :: ys,[],vs,c,n,_,_,h1,_,_,_=>by simp at h1
 | x :: xs,y :: ys,u :: us,[],c,n,_,_,_,h2,_,_=>by simp at h2
theorem sameSV_sound {cx:Ctx} {pl pl':Nat -> Place} {x y:SV} {u v:Value} {c:Cnd} (h:sameSV x y = some c) (hc:c.P) (hx:SVR cx pl x u) (hy:SVR cx pl' y v):u = v:=by
 obtain ⟨us,e1,_,l1,c1⟩:=hx;obtain ⟨vs,e2,_,l2,c2⟩:=hy;have go:sameCells x.cs y.cs = some c -> us = vs:=fun h=>sameCells_sound (pl:=pl) (pl':=pl') 0 h hc l1 l2 (fun i x u hx hu=>by rw [Nat.zero_add]; exact (c1 i x u hx hu).2) (fun i x u hx hu=>by rw [Nat.zero_add]; exact (c2 i x u hx hu).2)
 unfold sameSV at h;split at h
 ·rename_i h1 h2; rw [e1,e2,h1,h2,go h]
 ·rename_i h1 h2; rw [e1,e2,h1,h2,go h]
 ·cases h
section
variable {P:Program} {E:Env} {ops:Array Oper} {N:Nat} {s s₂ s0 s1:St} {hints hints2:List (Nat × Hint)} {tl:List Nat} {ob:Prop} {r:Option Nat} {R:Exit -> St -> Prop} {id:Nat} {res:List (Option Res)} {b:List Nat} {F:Fence} {n:Nat} {Q:Exit -> Act -> World -> Prop}
def YAt (P:Program) (w:World) (o:Oper) (v:Value) (a:Act):Prop:=(execOp a.eval o).run P w = .ok (.value v) w
theorem still_value {o:Oper} (h:stillOp o = true) (ρ:Operand -> Value) {w:World} {x:Next} {w':World} (hr:(execOp ρ o).run P w = .ok x w'):∃ v,x = .value v:=by
 have val:∀ {m:Sem Value},((do pure (Next.value (<- m)):Sem Next)).run P w = .ok x w' -> ∃ v,x = .value v:=fun {m} h=>by
  rw [Sem.run_bind] at h;obtain ⟨y,w1,h1,h2⟩:=and_ok h;injection h2 with h2;exact ⟨y,h2.symm⟩
 unfold execOp at hr;cases hop:o.op <;> simp only [hop] at hr
 all_goals first
  | (exfalso; unfold stillOp at h; rw [hop] at h; cases h; done)
  | exact val hr
  | (injection hr with hr; exact ⟨_,hr.symm⟩)
  | skip
 split at hr
 ·exact absurd hr (panic_never _ _ _ _)
 ·exact absurd hr (panic_never _ _ _ _)
 ·exact absurd hr (panic_never _ _ _ _)
 ·split at hr
  ·exact absurd hr (panic_never _ _ _ _)
  ·rw [Sem.run_bind] at hr;obtain ⟨_,_,_,hr⟩:=and_ok hr;rw [Sem.run_bind] at hr;obtain ⟨_,_,_,hr⟩:=and_ok hr;split at hr
   ·cases hr
   ·injection hr with hr; exact ⟨_,hr.symm⟩
  ·injection hr with hr; exact ⟨_,hr.symm⟩
 ·injection hr with hr; exact ⟨_,hr.symm⟩
theorem noGuard {o:Oper} (h:o.guard = none) (f:Nat -> Option Bool):Region.wanted o f = true:=by unfold Region.wanted; rw [h]
theorem still_step {i:Nat} {o:Oper} {v:Value} {a:Act} {w:World} {K:Act -> World -> Prop} (ho:ops[i]? = some o) (hs:stillOp o = true) (hg:o.guard = none) (hy:YAt P w o v a) (hk:K (a.put o.dst v) w):wpOpIn F n P ops Q i K a w:=by
 unfold wpOpIn;rw [ho];simp only [noGuard hg,if_true];unfold Oper.wpIn;rw [Oper.semAt_eq _ _ _ (still_noDefer hs),show (execOp a.eval o).run P w = _ from hy];exact ⟨fun f hf=>(by rw [still_about hs] at hf; cases hf),hk⟩
theorem still_get {i:Nat} {o:Oper} {a:Act} {w:World} {K:Act -> World -> Prop} (ho:ops[i]? = some o) (hs:stillOp o = true) (hg:o.guard = none) (h:wpOpIn F n P ops (fun _ _ _=>False) i (fun a' w'=>w' = w /\ K a' w') a w):∃ v,YAt P w o v a /\ K (a.put o.dst v) w:=by
 unfold wpOpIn at h;rw [ho] at h;simp only [noGuard hg,if_true] at h;unfold Oper.wpIn at h;rw [Oper.semAt_eq _ _ _ (still_noDefer hs)] at h;have h2:=h.2;cases hr:(execOp a.eval o).run P w with
 | ok x w'=>
  obtain ⟨v,rfl⟩:=still_value hs _ hr;rw [hr] at h2;obtain ⟨h3,h4⟩:=h2;subst h3;exact ⟨v,hr,h4⟩
 | halt x w'=>
  rw [hr] at h2;cases x <;> exact absurd h2 (by simp [Oper.uponIn])
theorem put_late {oi:Oper} {j:Nat} {oj:Oper} {v:Value} (hj:ops[j]? = some oj) (hap:oi.apart ops oj = true) (hsj:∀ cs b,oj.op ≠ .select cs b) (hdj:∀ c,oj.op ≠ .defer c)
  (hQ:∀ c a w,¬ Q (.panic c) a w) {K:Act -> World -> Prop} {a:Act} {w:World} (h:wpOpIn F n P ops Q j K (a.put oi.dst v) w) :
  wpOpIn F n P ops Q j (fun a' w'=>K (a'.put oi.dst v) w') a w:=by
 obtain ⟨h1,h2,h3⟩:=Oper.apart_spec hap;unfold wpOpIn at *
 simp only [hj] at *
 rw [wanted_put oj a oi.dst v h1,about_put oj w a oi.dst v h1] at h;split
 ·rename_i hw;simp only [hw,if_true] at h;unfold Oper.wpIn at *
  rw [about_put oj w a oi.dst v h1,Oper.semAt_eq _ _ _ hdj,execOp_put oj hsj a oi.dst v h1] at h;rw [Oper.semAt_eq _ _ _ hdj];obtain ⟨h0,h⟩:=h;refine ⟨h0,?_⟩;generalize (execOp a.eval oj).run P w = q at *
  cases q with
  | halt x w'=>
   cases x <;> simp only [Oper.uponIn] at h ⊢;exact absurd h (hQ _ _ _)
  | ok x w'=>
   cases x <;> simp only [Oper.uponIn] at h ⊢
   case value u=>rw [<- Act.put_comm a v u h2]; exact h
   case skip=>rw [<- Act.put_comm a v undef h2]; exact h
   case defer d=>
    rw [<- Act.put_comm _ v undef h2,<- Act.put_defers];exact h
   case row=>exact ⟨h.1,RowsIn.mono h.2 fun u w'' he=>(by rw [<- Act.put_comm a v u h2]; exact he)⟩
   case enter=>
    refine ⟨h.1,CallsIn.mono h.2 fun e w'' he=>?_⟩
    cases e with
    | returned u=>show K ((a.put oj.dst u).put oi.dst v) w''; rw [<- Act.put_comm a v u h2]; exact he
    | panicked c=>exact absurd he (hQ _ _ _)
    | outgrown=>exact he
   case round=>
    refine ⟨h.1,RoundIn.mono h.2 fun e w'' he=>?_⟩
    cases e with
    | returned u=>show K ((a.put oj.dst u).put oi.dst v) w''; rw [<- Act.put_comm a v u h2]; exact he
    | panicked c=>exact absurd he (hQ _ _ _)
    | outgrown=>exact he
 ·rename_i hw;simp only [hw] at h;exact ⟨h.1,(by rw [<- Act.put_comm a v undef h2]; exact h.2)⟩
def puts (ops:Array Oper):Act -> List (Nat × Value) -> Act
 | a,[]=>a
 | a,q :: l=>puts ops (a.put (dstOf ops q.1) q.2) l
theorem puts_exec {o:Oper} (hs:∀ cs b,o.op ≠ .select cs b):∀ (l:List (Nat × Value)) (a:Act),(∀ q ∈ l,∀ d,dstOf ops q.1 = some d -> d ∉ o.looksAt ops) -> execOp (puts ops a l).eval o = execOp a.eval o
 | [],a,_=>rfl
 | q :: l,a,h=>by
  rw [puts,puts_exec hs l _ fun p hp=>h p (List.mem_cons_of_mem _ hp),execOp_put o hs a _ _ (h q (List.mem_cons_self ..))]
theorem puts_put {x:Option Nat} {v:Value}:∀ (l:List (Nat × Value)) (a:Act),(∀ q ∈ l,∀ d,x = some d -> dstOf ops q.1 ≠ some d) -> puts ops (a.put x v) l = (puts ops a l).put x v
 | [],a,_=>rfl
 | q :: l,a,h=>by
  rw [puts,puts,Act.put_comm a v q.2 (h q (List.mem_cons_self ..)),puts_put l _ fun p hp=>h p (List.mem_cons_of_mem _ hp)]
theorem put_size {x:Option Nat} {v:Value} {a:Act}:(a.put x v).tmps.size = a.tmps.size:=by
 cases x <;> simp [Act.put]
theorem puts_size:∀ (l:List (Nat × Value)) (a:Act),(puts ops a l).tmps.size = a.tmps.size
 | [],a=>rfl
 | q :: l,a=>by rw [puts,puts_size l,put_size]
theorem puts_ahead {j:Nat} {oj:Oper} (hj:ops[j]? = some oj) (hsj:∀ cs b,oj.op ≠ .select cs b) (hdj:∀ c,oj.op ≠ .defer c) (hQ:∀ c a w,¬ Q (.panic c) a w):∀ (l:List (Nat × Value)) {K:Act -> World -> Prop} {a:Act} {w:World},(∀ q ∈ l,∃ oi,ops[q.1]? = some oi /\ oi.apart ops oj = true) ->
  wpOpIn F n P ops Q j K (puts ops a l) w -> wpOpIn F n P ops Q j (fun a' w'=>K (puts ops a' l) w') a w
 | [],K,a,w,_,h=>h
 | q :: l,K,a,w,hl,h=>by
  have h1:=puts_ahead hj hsj hdj hQ l (fun p hp=>hl p (List.mem_cons_of_mem _ hp)) (K:=K) (a:=a.put (dstOf ops q.1) q.2) h
  obtain ⟨oi,e1,e2⟩:=hl q (List.mem_cons_self ..);have e3:dstOf ops q.1 = oi.dst:=by unfold dstOf; rw [e1]; rfl
  rw [e3] at h1;have h2:=put_late hj e2 hsj hdj hQ h1;exact wpOpIn_mono (fun a' w' h=>by rw [puts,e3]; exact h) h2
theorem puts_take {i:Nat} {v:Value}:∀ (l:List (Nat × Value)) (a:Act),(i,v) ∈ l -> (l.map (·.1)).Nodup -> (∀ q ∈ l,q.1 ≠ i -> ∀ d,dstOf ops i = some d -> dstOf ops q.1 ≠ some d) -> puts ops a l = puts ops (a.put (dstOf ops i) v) (l.filter fun q=>q.1 != i)
 | [],a,h,_,_=>by cases h
 | q :: l,a,h,hn,hd=>by
  simp only [List.map_cons,List.nodup_cons] at hn;by_cases hq:q.1 = i
  ·have hqv:q = (i,v):=by
    rcases List.mem_cons.1 h with h | h
    ·exact h.symm
    ·exact absurd (List.mem_map.2 ⟨_,h,rfl⟩) (by rw [<- hq] at *; exact hn.1)
   subst hqv;have hf:l.filter (fun q=>q.1 != i) = l:=List.filter_eq_self.2 fun p hp=>by
    simp only [bne_iff_ne];intro e;exact hn.1 (List.mem_map.2 ⟨p,hp,e⟩)
   rw [List.filter_cons];simp only [bne_self_eq_false,Bool.false_eq_true,if_false,hf];rfl
  ·have hm:(i,v) ∈ l:=(List.mem_cons.1 h).resolve_left fun e=>hq (by rw [<- e])
   rw [List.filter_cons];have:(q.1 != i) = true:=by simpa using hq
   simp only [this,if_true];rw [puts,puts,puts_take l _ hm hn.2 fun p hp=>hd p (List.mem_cons_of_mem _ hp)]
   rw [Act.put_comm a v q.2 (hd q (List.mem_cons_self ..) hq)]
theorem puts_get {i d:Nat} {v:Value} {l:List (Nat × Value)} {a:Act} {out:Nat -> Value} (h:(i,v) ∈ l) (hn:(l.map (·.1)).Nodup) (hdi:dstOf ops i = some d) (hd:∀ q ∈ l,q.1 ≠ i -> dstOf ops q.1 ≠ some d) (hs:d < a.tmps.size) (hl:d < lim):tv out (puts ops a l) d = v:=by
 rw [puts_take l a h hn fun q hq hne d' hd'=>by rw [hdi] at hd'; injection hd' with hd'; subst hd'; exact hd q hq hne]
 rw [hdi,puts_put _ _ fun q hq d' hd'=>by
  injection hd' with hd'
  subst hd';obtain ⟨h1,h2⟩:=List.mem_filter.1 hq
  exact hd q h1 (by simpa using h2)]
 rw [tv_put (by rw [puts_size]; exact hs) hl,if_pos rfl]
structure Late (ops:Array Oper) (res:List (Option Res)) (b L:List Nat) (k:Nat) (o:Oper) (d:Nat):Prop where
 op:ops[k]? = some o
 still:stillOp o = true
 guard:o.guard = none
 dst:o.dst = some d
 cal:cal res k = true
 self:d ∉ o.looksAt ops
 soft:∀ q,resAt res k = some q -> q.box = none /\ q.wr = none
 calm:∀ (j:Nat) oj,ops[j]? = some oj -> j ≠ k -> M.cal res j = true -> j ∈ L -> (b.getD j 0).testBit k = true \/ d ∉ oj.looksAt ops
 apart:∀ (j:Nat) oj,ops[j]? = some oj -> M.cal res j = false -> (b.getD j 0).testBit k = true \/ o.apart ops oj = true
theorem lateOk_spec (h:lateOk ops res b = true):(∀ i k,i < ops.size -> cal res i = false -> k < i -> cal res k = false -> (b.getD i 0).testBit k = true) /\
  (∀ k ∈ lateL ops res b,∃ o d,Late ops res b (lateL ops res b) k o d) /\ ∀ i k,i < ops.size -> cal res i = false -> k < ops.size -> cal res k = true -> k ∉ lateL ops res b -> (b.getD i 0).testBit k = true:=by
 unfold lateOk at h;rw [Bool.and_eq_true,List.all_eq_true,List.all_eq_true] at h;refine ⟨fun i k hi hci hk hck=>?_,fun k hk=>?_,fun i k hi hci hk hck hn=>?_⟩
 ·have:=h.1 i (by simpa using hi)
  rw [hci,Bool.false_or,List.all_eq_true] at this;simpa [hck] using this k (by simpa using hk)
 ·have h1:=h.2 k hk;unfold lateOne at h1;split at h1
  ·rename_i o q ho hq;split at h1
   ·rename_i d hd;simp only [Bool.and_eq_true,List.all_eq_true] at h1;obtain ⟨⟨⟨⟨⟨a1,a2⟩,a3⟩,a4⟩,a5⟩,a6⟩:=h1;refine ⟨o,d,ho,a1,by simpa using a2,hd,cal_of hq,by simpa using a5,fun q' hq'=>?_,fun j oj hj hjk hcj hjL=>?_,fun j oj hj hcj=>?_⟩
    ·rw [hq] at hq'; injection hq' with hq'; subst hq'
     exact ⟨by simpa using a3,by simpa using a4⟩
    ·have:=a6 j (by have:=(Array.getElem?_eq_some_iff.1 hj).1; simpa using this)
     rw [hj] at this;simp only [hcj,if_true,Bool.or_eq_true,beq_iff_eq,hjk,false_or] at this;rcases this with (h2 | h2) | h2
     ·simp [hjL] at h2
     ·exact .inl h2
     ·exact .inr (by simpa using h2)
    ·have hjk:j ≠ k:=fun e=>by subst e; rw [cal_of hq] at hcj; cases hcj
     have:=a6 j (by have:=(Array.getElem?_eq_some_iff.1 hj).1; simpa using this)
     rw [hj] at this;simp only [hcj,Bool.false_eq_true,if_false,Bool.or_eq_true,beq_iff_eq,hjk,false_or] at this;exact this
   ·cases h1
  ·cases h1
 ·cases hb:(b.getD i 0).testBit k with
  | true=>rfl
  | false=>
   exfalso;apply hn;unfold lateL;rw [List.mem_filter];refine ⟨by simpa using hk,?_⟩
   rw [hck,Bool.true_and,List.any_eq_true];exact ⟨i,by simpa using hi,by rw [hci,hb]; rfl⟩
def LGoes (P:Program) (r:Option Nat) (E:Env) (ops:Array Oper) (b L:List Nat) (Kp:St -> Prop):List Nat -> St -> Prop
 | [],s=>Kp s
 | i :: rest,s=>∃ o,ops[i]? = some o /\ Goes P r E ops (fun s'=>(∃ c,lateC P ops s' (L.filter fun k=>!(b.getD i 0).testBit k) = some c /\ c.P) /\ LGoes P r E ops b L Kp rest s') [o] s
theorem lateC_sound {L:List Nat}:∀ {l:List Nat} {c:Cnd},lateC P ops s l = some c -> c.P -> ∀ k ∈ l,∃ o d x y cc,ops[k]? = some o /\ o.dst = some d /\ s.look d = some x /\ aval P (wantsOwn ops (some d)) none s o.op = some (y,.ok) /\ sameSV x y = some cc /\ cc.P
 | [],c,_,_,k,hk=>by cases hk
 | i :: l,c,h,hc,k,hk=>by
  simp only [lateC] at h;split at h
  ·rename_i o ho;split at h
   ·rename_i d hd;split at h
    ·rename_i x y h1 h2;split at h
     ·rename_i c1 c2 e1 e2;injection h with h;subst h;obtain ⟨k1,k2⟩:=Cnd.and_sound hc;rcases List.mem_cons.1 hk with rfl | hk
      ·exact ⟨o,d,x,y,c1,ho,hd,h1,h2,e1,k1⟩
      ·exact lateC_sound (L:=L) e2 k2 k hk
     ·cases h
    ·cases h
   ·cases h
  ·cases h
theorem nodup_filter {α:Type} {p:α -> Bool} {f:α -> Nat}:∀ {l:List α},(l.map f).Nodup -> ((l.filter p).map f).Nodup
 | [],_=>by simp
 | x :: l,h=>by
  simp only [List.map_cons,List.nodup_cons] at h;rw [List.filter_cons];split
  ·simp only [List.map_cons,List.nodup_cons];refine ⟨fun hm=>h.1 ?_,nodup_filter h.2⟩
   obtain ⟨y,hy,e⟩:=List.mem_map.1 hm;exact List.mem_map.2 ⟨y,(List.mem_filter.1 hy).1,e⟩
  ·exact nodup_filter h.2
theorem ready_some (hedge:∀ (i:Nat) o,ops[i]? = some o -> ∀ j ∈ edgesOf o,j < i) {listed:Array Bool} (hls:listed.size = ops.size):∀ (n k:Nat),k < n -> k < ops.size -> listed.getD k false = false -> ∃ i,i ∈ Region.ready .any ops listed:=by
 intro n;induction n with
 | zero=>intro k hk; omega
 | succ n ih=>
  intro k hkn hk hun;by_cases hall:∀ j,j < k -> listed.getD j false = true
  ·refine ⟨k,?_⟩;rw [ready_iff,getD_tf];exact ⟨⟨by omega,hun⟩,ops[k],Array.getElem?_eq_getElem hk,fun j hj=>hall j (hedge k _ (Array.getElem?_eq_getElem hk) j hj)⟩
  ·obtain ⟨j,hj⟩:=Classical.not_forall.1 hall;obtain ⟨h1,h2⟩:=Classical.not_imp.1 hj;exact ih j (by omega) (by omega) (by simpa using h2)
theorem late_run (hN:N = E.N) (hd:DF ops res s0 b) (hb:b = befs ops.toList []) (hlate:∀ k ∈ lateL ops res b,∃ o d,Late ops res b (lateL ops res b) k o d) (hdN:∀ k ∈ lateL ops res b,∀ d,dstOf ops k = some d -> d < E.N) :
  ∀ (fuel:Nat) (listed:Array Bool) (a:Act) (w:World) (g:Gh) (us:List (Nat × Value)) (s:St) (todo:List Nat),listed.size = ops.size -> Closed ops (fun k=>listed.getD k false = true) -> unl (fun k=>listed.getD k false) ops.size <= fuel ->
  (∀ q ∈ us,q.1 ∈ lateL ops res b /\ listed.getD q.1 false = false) -> (us.map (·.1)).Nodup -> (∀ k,k < ops.size -> listed.getD k false = false -> (∃ v,(k,v) ∈ us) \/ k ∈ todo) ->
  (∀ j ∈ todo,j < ops.size /\ cal res j = false /\ listed.getD j false = false) -> todo.Pairwise (fun p q=>p ≠ q /\ (b.getD q 0).testBit p = true) ->
  LGoes P r E ops b (lateL ops res b) (fun s'=>R .normal s'.clean) todo s -> Rel E s (puts ops a us) w g -> (∀ q ∈ us,∀ o,ops[q.1]? = some o -> YAt P w o q.2 (puts ops a us)) ->
  wpAnyIn (Fr r) 9 P .any ops (PostR E R) fuel listed a w:=by
 have done:∀ (fuel:Nat) (listed:Array Bool) (a:Act) (w:World) (g:Gh) (us:List (Nat × Value)) (s:St) (todo:List Nat),listed.size = ops.size -> (∀ k,k < ops.size -> listed.getD k false = true) ->
   (∀ q ∈ us,q.1 ∈ lateL ops res b /\ listed.getD q.1 false = false) -> (∀ j ∈ todo,j < ops.size /\ cal res j = false /\ listed.getD j false = false) -> LGoes P r E ops b (lateL ops res b) (fun s'=>R .normal s'.clean) todo s -> Rel E s (puts ops a us) w g ->
   wpAnyIn (Fr r) 9 P .any ops (PostR E R) fuel listed a w:=fun fuel listed a w g us s todo hls hall hus htd hgo hrel=>by
  have hus0:us = []:=List.eq_nil_iff_forall_not_mem.2 fun q hq=>by
   obtain ⟨h1,h2⟩:=hus q hq;obtain ⟨o,d,hl⟩:=hlate q.1 h1;rw [hall q.1 (Array.getElem?_eq_some_iff.1 hl.op).1] at h2;cases h2
  have htd0:todo = []:=List.eq_nil_iff_forall_not_mem.2 fun j hj=>by
   obtain ⟨h1,_,h2⟩:=htd j hj;rw [hall j h1] at h2;cases h2
  subst hus0; subst htd0;refine wpAnyIn_done (List.eq_nil_iff_forall_not_mem.2 fun j hj=>?_) ⟨rfl,_,g,hgo,clean_sound hrel⟩ fuel
  rw [ready_iff,getD_tf] at hj;rw [hall j (by omega)] at hj
  cases hj.1.2
 intro fuel;induction fuel with
 | zero=>
  intro listed a w g us s todo hls hc hfu hus hnd hall htd hpw hgo hrel hy;exact done 0 listed a w g us s todo hls (fun k hk=>unl_zero (Nat.le_zero.1 hfu) k hk) hus htd hgo hrel
 | succ fuel ih=>
  intro listed a w g us s todo hls hc hfu hus hnd hall htd hpw hgo hrel hy;by_cases hev:∀ k,k < ops.size -> listed.getD k false = true
  ·exact done _ listed a w g us s todo hls hev hus htd hgo hrel
  ·obtain ⟨k0,hk0⟩:=Classical.not_forall.1 hev;obtain ⟨h1,h2⟩:=Classical.not_imp.1 hk0;obtain ⟨i0,hi0⟩:=ready_some hd.edge hls (k0 + 1) k0 (by omega) h1 (by simpa using h2)
   refine ⟨fun h0=>(by rw [h0] at hi0; cases hi0),fun i hi=>?_⟩
   have hi':=hi;rw [ready_iff,getD_tf] at hi';obtain ⟨⟨hisz,hiun⟩,o,ho,he⟩:=hi';have hin:i < ops.size:=by omega
   have less:unl (fun k=>(listed.setIfInBounds i true).getD k false) ops.size <= fuel:=by
    have:=(unl_set (L:=fun k=>listed.getD k false) (L':=fun k=>(listed.setIfInBounds i true).getD k false) (i:=i) (fun k=>set_getD hisz) hiun ops.size).1 hin
    omega
   have setn:∀ {k},(listed.setIfInBounds i true).getD k false = false -> k ≠ i /\ listed.getD k false = false:=fun {k} h=>by
    rw [set_getD hisz] at h;by_cases hk:k = i
    ·rw [if_pos hk] at h; cases h
    ·rw [if_neg hk] at h; exact ⟨hk,h⟩
   have sets:∀ {k},k ≠ i -> listed.getD k false = false -> (listed.setIfInBounds i true).getD k false = false:=fun {k} h1 h2=>by
    rw [set_getD hisz,if_neg h1]; exact h2
   have ahead:∀ {k},(b.getD i 0).testBit k = true -> listed.getD k false = false -> k = i:=fun {k} h1 h2=>by
    rcases before_listed hb hc ho he h1 with h3 | h3
    ·rw [h2] at h3; cases h3
    ·exact h3
   have distinct:∀ {k d},k ∈ lateL ops res b -> dstOf ops k = some d -> ∀ q ∈ us,q.1 ≠ k -> dstOf ops q.1 ≠ some d:=fun {k d} hk hkd q hq hne e=>by
    obtain ⟨_,_,l1⟩:=hlate k hk;obtain ⟨_,_,l2⟩:=hlate q.1 (hus q hq).1;exact hne (hd.inj q.1 k d (Array.getElem?_eq_some_iff.1 l2.op).1 (Array.getElem?_eq_some_iff.1 l1.op).1 l2.cal l1.cal e hkd)
   rcases hall i hin hiun with ⟨v,hv⟩ | htodo
   ·-- a late one
    obtain ⟨o',d,hl⟩:=hlate i (hus _ hv).1;have hoo:o' = o:=by have:=hl.op; rw [ho] at this; injection this with this; exact this.symm
    subst hoo;have hdi:dstOf ops i = some d:=by unfold dstOf; rw [ho]; exact hl.dst
    have hex:execOp (puts ops a us).eval o' = execOp a.eval o':=puts_exec (fun cs b e=>by have:=hl.still; unfold stillOp at this; rw [e] at this; cases this) us a fun q hq d' hd'=>by
     by_cases hqi:q.1 = i
     ·rw [hqi,hdi] at hd'; injection hd' with hd'; subst hd'; exact hl.self
     ·obtain ⟨oq,dq,lq⟩:=hlate q.1 (hus q hq).1;have hdq:dstOf ops q.1 = some dq:=by unfold dstOf; rw [lq.op]; exact lq.dst
      rw [hdq] at hd'; injection hd' with hd'; subst hd'
      rcases lq.calm i o' ho (Ne.symm hqi) hl.cal (hus _ hv).1 with h1 | h1
      ·exact absurd (ahead h1 (hus q hq).2) hqi
      ·exact h1
    have hyi:YAt P w o' v a:=by
     have:=hy _ hv o' ho;unfold YAt at this ⊢;rw [<- hex]; exact this
    refine still_step ho hl.still hl.guard hyi ?_;have htake:puts ops a us = puts ops (a.put o'.dst v) (us.filter fun q=>q.1 != i):=by
     rw [puts_take us a hv hnd fun q hq hne d' hd'=>by rw [hdi] at hd'; injection hd' with hd'; subst hd'; exact distinct (hus _ hv).1 hdi q hq hne]
     unfold dstOf;rw [ho];rfl
    refine ih _ _ w g (us.filter fun q=>q.1 != i) s todo (by simpa using hls) (closed_set hc hi) less (fun q hq=>?_) (nodup_filter hnd) (fun k hk hun=>?_) (fun j hj=>?_) hpw hgo (by rw [<- htake]; exact hrel) (fun q hq oq hoq=>by rw [<- htake]; exact hy q (List.mem_filter.1 hq).1 oq hoq)
    ·obtain ⟨h3,h4⟩:=List.mem_filter.1 hq;exact ⟨(hus q h3).1,sets (by simpa using h4) (hus q h3).2⟩
    ·obtain ⟨h3,h4⟩:=setn hun;rcases hall k hk h4 with ⟨u,hu⟩ | hu
     ·exact .inl ⟨u,List.mem_filter.2 ⟨hu,by simpa using h3⟩⟩
     ·exact .inr hu
    ·obtain ⟨h3,h4,h5⟩:=htd j hj;exact ⟨h3,h4,sets (fun e=>by rw [e,hl.cal] at h4; cases h4) h5⟩
   ·-- the writing end goes on
    cases todo with
    | nil=>cases htodo
    | cons i1 rest=>
     have hi1:i1 = i:=by
      rcases List.mem_cons.1 htodo with h | h
      ·exact h.symm
      ·obtain ⟨h3,_⟩:=List.pairwise_cons.1 hpw;obtain ⟨h4,h5⟩:=h3 i h;exact ahead h5 (htd i1 (List.mem_cons_self ..)).2.2
     subst hi1;obtain ⟨o',ho',hgo1⟩:=hgo;have hoo:o' = o:=by rw [ho] at ho'; injection ho' with ho'; exact ho'.symm
     subst hoo;have hci:=(htd i1 (List.mem_cons_self ..)).2.1;have hns:=noSel_spec hd.nosel ho;have h6:wpOpIn (Fr r) 9 P ops (PostR E R) i1 (fun a' w'=>∃ s' g',((∃ c,lateC P ops s' ((lateL ops res b).filter fun k=>!(b.getD i1 0).testBit k) = some c /\ c.P) /\ LGoes P r E ops b (lateL ops res b) (fun s'=>R .normal s'.clean) rest s') /\ Rel E s' a' w' g') (puts ops a us) w:=by
      unfold wpOpIn;rw [ho];exact hgo1 _ w g _ _ hrel fun s' a' w' g' h' hr'=>⟨s',g',h',hr'⟩
     have h7:=puts_ahead ho hns.1 hns.2 (fun c a w h=>by cases h.1) us (fun q hq=>by
      obtain ⟨oq,dq,lq⟩:=hlate q.1 (hus q hq).1;refine ⟨oq,lq.op,(lq.apart i1 o' ho hci).resolve_left fun h1=>?_⟩
      have:=ahead h1 (hus q hq).2;rw [<- this,lq.cal] at hci
      cases hci) h6
     refine wpOpIn_mono (fun a' w' h8=>?_) h7
     obtain ⟨s',g',⟨⟨c,hch,hcp⟩,hgo'⟩,hr'⟩:=h8;refine ih _ a' w' g' us s' rest (by simpa using hls) (closed_set hc hi) less (fun q hq=>?_) hnd (fun k hk hun=>?_) (fun j hj=>?_) (List.pairwise_cons.1 hpw).2 hgo' hr' (fun q hq oq hoq=>?_)
     ·obtain ⟨oq,dq,lq⟩:=hlate q.1 (hus q hq).1;exact ⟨(hus q hq).1,sets (fun e=>by rw [<- e,lq.cal] at hci; cases hci) (hus q hq).2⟩
     ·obtain ⟨h3,h4⟩:=setn hun;rcases hall k hk h4 with hu | hu
      ·exact .inl hu
      ·exact .inr ((List.mem_cons.1 hu).resolve_left h3)
     ·obtain ⟨h3,h4,h5⟩:=htd j (List.mem_cons_of_mem _ hj);exact ⟨h3,h4,sets (fun e=>((List.pairwise_cons.1 hpw).1 j hj).1 e.symm) h5⟩
     ·obtain ⟨o2,dq,lq⟩:=hlate q.1 (hus q hq).1;have:o2 = oq:=by have:=lq.op; rw [hoq] at this; injection this with this; exact this.symm
      subst this;have hmem:q.1 ∈ (lateL ops res b).filter fun k=>!(b.getD i1 0).testBit k:=by
       rw [List.mem_filter];refine ⟨(hus q hq).1,?_⟩;cases hbit:(b.getD i1 0).testBit q.1 with
       | false=>rfl
       | true=>
        have:=ahead hbit (hus q hq).2;rw [<- this,lq.cal] at hci;cases hci
      obtain ⟨o3,d3,x,y,cc,e1,e2,e3,e4,e5,e6⟩:=lateC_sound (L:=[]) hch hcp q.1 hmem;rw [lq.op] at e1;injection e1 with e1;subst e1;obtain ⟨hlim,hlk⟩:=look_some e3;obtain ⟨u,hrun,hsv,_⟩:=aval_sound (pl:=fun _=>.slot 0 0) e4 trivial hr'
      have hdq:dstOf ops q.1 = some d3:=by unfold dstOf; rw [lq.op]; exact e2
      have hx:=hr'.slots d3 x hlk;have huv:=sameSV_sound e5 e6 hx hsv
      have hget:tv g'.dy.out (puts ops a' us) d3 = q.2:=puts_get (i:=q.1) (v:=q.2) hq hnd hdq (fun p hp hne=>distinct (hus q hq).1 hdq p hp hne) (by
       have h9:=hr'.size;rw [puts_size] at h9;rw [h9]
       exact hdN q.1 (hus q hq).1 d3 hdq) hlim
      unfold YAt;rw [hrun,<- huv,hget]
theorem late_now (hN:N = E.N) (hd:DF ops res s0 b) (hb:b = befs ops.toList []) (hmk:∀ k q y,k < ops.size -> resAt res k = some q -> q.wr = none -> q.box = some y -> dstOf ops k = some y.1) (hstep:∀ i,i < ops.size -> cal res i = true -> StepOk P N ops hints s0 res i) (hend:Txt s0 ops res ops.size s1) (hlate:∀ k ∈ lateL ops res b,∃ o d,Late ops res b (lateL ops res b) k o d) :
  ∀ (n:Nat) (listed:Array Bool) (a:Act) (w:World) (g:Gh),unl (fun k=>listed.getD k false) ops.size <= n -> listed.size = ops.size -> Closed ops (fun k=>listed.getD k false = true) -> (∀ k,k < ops.size -> cal res k = true -> k ∉ lateL ops res b -> listed.getD k false = true) ->
  RelF E (slS s0 ops res b fun k=>listed.getD k false) (bxS s0 ops res fun k=>listed.getD k false) a w g ->
  ∃ us g',(∀ q ∈ us,q.1 ∈ lateL ops res b /\ listed.getD q.1 false = false) /\ (us.map (·.1)).Nodup /\ (∀ k,k < ops.size -> cal res k = true -> listed.getD k false = false -> ∃ v,(k,v) ∈ us) /\ Rel E s1 (puts ops a us) w g' /\
   ∀ q ∈ us,∀ o,ops[q.1]? = some o -> YAt P w o q.2 (puts ops a us):=by
 intro n;induction n with
 | zero=>
  intro listed a w g hu hls hc hnl hF;exact ⟨[],g,fun q hq=>(by cases hq),List.nodup_nil,fun k hk _ hun=>(by rw [unl_zero (Nat.le_zero.1 hu) k hk] at hun; cases hun),to_end hd hend (fun k hk _=>unl_zero (Nat.le_zero.1 hu) k hk) hF,fun q hq=>(by cases hq)⟩
 | succ n ih=>
  intro listed a w g hu hls hc hnl hF;by_cases hall:∀ k,k < ops.size -> cal res k = true -> listed.getD k false = true
  ·exact ⟨[],g,fun q hq=>(by cases hq),List.nodup_nil,fun k hk hck hun=>(by rw [hall k hk hck] at hun; cases hun),to_end hd hend hall hF,fun q hq=>(by cases hq)⟩
  ·-- the least one
   have least:∀ m k,k < m -> k < ops.size -> cal res k = true -> listed.getD k false = false -> ∃ i,i < ops.size /\ cal res i = true /\ listed.getD i false = false /\ i ∈ Region.ready .any ops listed:=by
    intro m;induction m with
    | zero=>intro k hk; omega
    | succ m ihm=>
     intro k hkm hk hck hun;by_cases hbef:∀ j,j < k -> cal res j = true -> listed.getD j false = true
     ·refine ⟨k,hk,hck,hun,?_⟩;rw [ready_iff,getD_tf];exact ⟨⟨by omega,hun⟩,ops[k],Array.getElem?_eq_getElem hk,fun j hj=>hbef j (hd.edge k _ (Array.getElem?_eq_getElem hk) j hj) (hd.calm k _ (Array.getElem?_eq_getElem hk) hck j hj)⟩
     ·obtain ⟨j,hj⟩:=Classical.not_forall.1 hbef;obtain ⟨h1,h2⟩:=Classical.not_imp.1 hj;obtain ⟨h3,h4⟩:=Classical.not_imp.1 h2;exact ihm j (by omega) (by omega) h3 (by simpa using h4)
   obtain ⟨k0,hk0⟩:=Classical.not_forall.1 hall;obtain ⟨h1,h2⟩:=Classical.not_imp.1 hk0;obtain ⟨h3,h4⟩:=Classical.not_imp.1 h2;obtain ⟨i,hin,hci,hiun,hi⟩:=least (k0 + 1) k0 (by omega) h1 h3 (by simpa using h4)
   have hiL:i ∈ lateL ops res b:=Classical.byContradiction fun h=>by rw [hnl i hin hci h] at hiun; cases hiun
   have hi':=hi;rw [ready_iff,getD_tf] at hi';obtain ⟨⟨hisz,_⟩,o1,ho1,he⟩:=hi';obtain ⟨o,d,hl⟩:=hlate i hiL;have hoo:o1 = o:=by have:=hl.op; rw [ho1] at this; injection this
   subst hoo;have hst:=any_step (r:=none) (Q:=fun _ _ _=>False) hN hd hb hmk (hstep i hin hci) hls hc hi hci hF (K:=fun a' w'=>w' = w /\ ∃ g',RelF E (slS s0 ops res b fun k=>(listed.setIfInBounds i true).getD k false) (bxS s0 ops res fun k=>(listed.setIfInBounds i true).getD k false) a' w' g') (fun a' w' g' h hw=>⟨hw o1 ho1 hl.still hl.guard,g',h⟩)
   obtain ⟨v,hy,g1,hF1⟩:=still_get (K:=fun a' w'=>∃ g',RelF E (slS s0 ops res b fun k=>(listed.setIfInBounds i true).getD k false) (bxS s0 ops res fun k=>(listed.setIfInBounds i true).getD k false) a' w' g') ho1 hl.still hl.guard hst
   have setn:∀ {k},(listed.setIfInBounds i true).getD k false = false -> k ≠ i /\ listed.getD k false = false:=fun {k} h=>by
    rw [set_getD hisz] at h;by_cases hk:k = i
    ·rw [if_pos hk] at h; cases h
    ·rw [if_neg hk] at h; exact ⟨hk,h⟩
   have less:unl (fun k=>(listed.setIfInBounds i true).getD k false) ops.size <= n:=by
    have:=(unl_set (L:=fun k=>listed.getD k false) (L':=fun k=>(listed.setIfInBounds i true).getD k false) (i:=i) (fun k=>set_getD hisz) hiun ops.size).1 hin
    omega
   obtain ⟨us,g',q1,q2,q3,q4,q5⟩:=ih _ _ w g1 less (by simpa using hls) (closed_set hc hi) (fun k hk hck hnk=>by
    rw [set_getD hisz];split
    ·rfl
    ·exact hnl k hk hck hnk) hF1
   have hdi:dstOf ops i = some d:=by unfold dstOf; rw [ho1]; exact hl.dst
   have heq:puts ops a ((i,v) :: us) = puts ops (a.put o1.dst v) us:=by rw [puts]; simp only [hdi,hl.dst]
   have hni:i ∉ us.map (·.1):=fun hm=>by
    obtain ⟨q,hq,e⟩:=List.mem_map.1 hm;exact (setn (q1 q hq).2).1 e
   refine ⟨(i,v) :: us,g',fun q hq=>?_,by simp only [List.map_cons,List.nodup_cons]; exact ⟨hni,q2⟩,fun k hk hck hun=>?_,by rw [heq]; exact q4,fun q hq o2 ho2=>?_⟩
   ·rcases List.mem_cons.1 hq with rfl | hq
    ·exact ⟨hiL,hiun⟩
    ·exact ⟨(q1 q hq).1,(setn (q1 q hq).2).2⟩
   ·by_cases hki:k = i
    ·subst hki; exact ⟨v,List.mem_cons_self ..⟩
    ·obtain ⟨u,hu⟩:=q3 k hk hck (by rw [set_getD hisz,if_neg hki]; exact hun)
     exact ⟨u,List.mem_cons_of_mem _ hu⟩
   ·rw [heq];rcases List.mem_cons.1 hq with rfl | hq
    ·rw [show ops[i]? = some o1 from ho1] at ho2;injection ho2 with ho2;subst ho2;unfold YAt at hy ⊢;have hsel:∀ cs b,o1.op ≠ .select cs b:=fun cs b e=>by have:=hl.still; unfold stillOp at this; rw [e] at this; cases this
     rw [puts_exec hsel us _ fun p hp d' hd'=>?_,execOp_put o1 hsel a _ _ (fun d' hd'=>by rw [hl.dst] at hd'; injection hd' with hd'; subst hd'; exact hl.self)]
     ·exact hy
     ·obtain ⟨op,dp,lp⟩:=hlate p.1 (q1 p hp).1;have hdp:dstOf ops p.1 = some dp:=by unfold dstOf; rw [lp.op]; exact lp.dst
      rw [hdp] at hd'; injection hd' with hd'; subst hd'
      obtain ⟨hpi,hpun⟩:=setn (q1 p hp).2;refine (lp.calm i o1 ho1 (Ne.symm hpi) hl.cal hiL).resolve_left fun h1=>?_
      rcases before_listed hb hc ho1 he h1 with h5 | h5
      ·rw [hpun] at h5; cases h5
      ·exact hpi h5
    ·exact q5 q hq o2 ho2
theorem AWp.draw3 (hN:N = E.N) (hmo:P.follows .mixedOrders = true) (hc:arunC P N ops hints tl 0 ops.toList s = some (res,s1,ob)) (hob:ob) (hok:drawOk ops res s (befs ops.toList []) = true) (hlo:lateOk ops res (befs ops.toList []) = true)
  (hgo:LGoes P r E ops (befs ops.toList []) (lateL ops res (befs ops.toList [])) (fun s'=>R .normal s'.clean) (tailOf ops res) s1) :
  AWp P r E (.region id ops true) s R:=by
 intro a w g hr;have hdf:=DF.of hok;have hlen:ops.toList.length = ops.size:=by simp
 obtain ⟨f1,f0,f2,f3⟩:=arunC_facts (s0:=s) (res:=res) ops.toList 0 s s1 res ob (fun j o hj=>by simpa using hj) (fun j hj=>by simp) hc hob ⟨hr.uniq,fun t x hx=>.inr ⟨fun k hk=>by omega,hx,fun c hc=>by omega⟩,fun n y hy=>.inr ⟨fun c hc=>by omega,hy⟩⟩
 rw [hlen] at f1 f2 f0;have hstep:∀ i,i < ops.size -> cal res i = true -> StepOk P N ops hints s res i:=fun i hi hci=>by
  have h0:=f0 i hi;rw [Nat.zero_add,hci] at h0;simpa using f1 i hi (by rw [Nat.zero_add]; simpa using h0.symm)
 have hmk:=makes_dst hstep;have hend:Txt s ops res ops.size s1:=by simpa using f2
 obtain ⟨ht1,hlate,ht3⟩:=lateOk_spec hlo;have hdN:∀ k ∈ lateL ops res (befs ops.toList []),∀ d,dstOf ops k = some d -> d < E.N:=fun k hk d hkd=>by
  obtain ⟨o,d',hl⟩:=hlate k hk;have hkz:=(Array.getElem?_eq_some_iff.1 hl.op).1;obtain ⟨o2,s2,ho2,_,hcase⟩:=hstep k hkz hl.cal;have hdo:o2.dst = some d:=by unfold dstOf at hkd; rw [ho2] at hkd; exact hkd
  rw [<- hN];rcases hcase with ⟨d2,hd2,_,hlt,_⟩ | ⟨p,c,_,_,_,_,hres⟩ | ⟨d2,hd2,_,hlt,_⟩
  ·rw [hdo] at hd2; injection hd2 with hd2; subst hd2; exact hlt
  ·have:=(hl.soft _ hres).2; cases this
  ·rw [hdo] at hd2; injection hd2 with hd2; subst hd2; exact hlt
 have hpair:(tailOf ops res).Pairwise fun p q=>p ≠ q /\ ((befs ops.toList []).getD q 0).testBit p = true:=by
  have hlt:(tailOf ops res).Pairwise (· < ·):=(List.pairwise_lt_range).filter _;refine hlt.imp_of_mem fun {p q} hp hq hpq=>⟨by omega,?_⟩
  unfold tailOf at hp hq;rw [List.mem_filter] at hp hq;exact ht1 q p (by simpa using hq.1) (by simpa using hq.2) hpq (by simpa using hp.2)
 have main:∀ (fuel:Nat) (listed:Array Bool) (a:Act) (w:World) (g:Gh),listed.size = ops.size -> Closed ops (fun k=>listed.getD k false = true) -> (∀ k,listed.getD k false = true -> cal res k = true) -> unl (fun k=>listed.getD k false) ops.size <= fuel ->
   RelF E (slS s ops res (befs ops.toList []) fun k=>listed.getD k false) (bxS s ops res fun k=>listed.getD k false) a w g -> wpAnyIn (Fr r) 9 P .any ops (PostR E R) fuel listed a w:=by
  intro fuel;induction fuel with
  | zero=>
   intro listed a w g hls hcl hlm hu hF;obtain ⟨us,g',q1,q2,q3,q4,q5⟩:=late_now hN hdf rfl hmk hstep hend hlate 0 listed a w g hu hls hcl (fun k hk _ _=>unl_zero (Nat.le_zero.1 hu) k hk) hF
   refine late_run hN hdf rfl hlate hdN 0 listed a w g' us s1 (tailOf ops res) hls hcl hu q1 q2 (fun k hk hun=>?_) (fun j hj=>?_) hpair hgo q4 q5
   ·rw [unl_zero (Nat.le_zero.1 hu) k hk] at hun; cases hun
   ·unfold tailOf at hj;rw [List.mem_filter] at hj;have hj1:j < ops.size:=by simpa using hj.1
    have:=hlm j (unl_zero (Nat.le_zero.1 hu) j hj1);simp [this] at hj
  | succ fuel ih=>
   intro listed a w g hls hcl hlm hu hF;by_cases hnl:∀ k,k < ops.size -> cal res k = true -> k ∉ lateL ops res (befs ops.toList []) -> listed.getD k false = true
   ·obtain ⟨us,g',q1,q2,q3,q4,q5⟩:=late_now hN hdf rfl hmk hstep hend hlate _ listed a w g hu hls hcl hnl hF;refine late_run hN hdf rfl hlate hdN _ listed a w g' us s1 (tailOf ops res) hls hcl hu q1 q2 (fun k hk hun=>?_) (fun j hj=>?_) hpair hgo q4 q5
    ·cases hck:cal res k with
     | true=>exact .inl (q3 k hk hck hun)
     | false=>exact .inr (by unfold tailOf; rw [List.mem_filter]; exact ⟨by simpa using hk,by simp [hck]⟩)
    ·unfold tailOf at hj;rw [List.mem_filter] at hj;have hcj:cal res j = false:=by simpa using hj.2
     refine ⟨by simpa using hj.1,hcj,?_⟩
     cases hlj:listed.getD j false with
     | false=>rfl
     | true=>rw [hlm j hlj] at hcj; cases hcj
   ·obtain ⟨k0,hk0⟩:=Classical.not_forall.1 hnl;obtain ⟨h1,h2⟩:=Classical.not_imp.1 hk0;obtain ⟨h3,h4⟩:=Classical.not_imp.1 h2;obtain ⟨h5,h6⟩:=Classical.not_imp.1 h4;obtain ⟨i0,hi0⟩:=ready_some hdf.edge hls (k0 + 1) k0 (by omega) h1 (by simpa using h6)
    refine ⟨fun h0=>(by rw [h0] at hi0; cases hi0),fun i hi=>?_⟩
    have hi':=hi;rw [ready_iff,getD_tf] at hi';obtain ⟨⟨hisz,hiun⟩,o,ho,he⟩:=hi';have hin:i < ops.size:=by omega
    cases hci:cal res i with
    | false=>
     exfalso;have:=ht3 i k0 hin hci h1 h3 h5;rcases before_listed rfl hcl ho he this with h7 | h7
     ·exact h6 h7
     ·rw [h7,hci] at h3; cases h3
    | true=>
     have less:unl (fun k=>(listed.setIfInBounds i true).getD k false) ops.size <= fuel:=by
      have:=(unl_set (L:=fun k=>listed.getD k false) (L':=fun k=>(listed.setIfInBounds i true).getD k false) (i:=i) (fun k=>set_getD hisz) hiun ops.size).1 hin
      omega
     refine any_step hN hdf rfl hmk (hstep i hin hci) hls hcl hi hci hF fun a' w' g' hF' _=>ih _ a' w' g' (by simpa using hls) (closed_set hcl hi) (fun k hk=>?_) less hF'
     rw [set_getD hisz] at hk;by_cases hki:k = i
     ·rw [hki]; exact hci
     ·rw [if_neg hki] at hk; exact hlm k hk
 have hcode:(Code.region id ops true).wpIn (Fr r) 9 P (PostR E R) a w:=by
  refine wpIn_region_any hmo ?_;have hr':=hr.drew;refine main ops.size _ a _ g (by simp) (fun i o ho hl=>?_) (fun i hi=>?_) ?_ ?_
  ·have hl':(Array.replicate ops.size false).getD i false = true:=hl;rw [getD_repl] at hl'; cases hl'
  ·have hi':(Array.replicate ops.size false).getD i false = true:=hi;rw [getD_repl] at hi'; cases hi'
  ·have:∀ n,unl (fun k=>(Array.replicate ops.size false).getD k false) n <= n:=by
    intro n;induction n with
    | zero=>exact Nat.le_refl _
    | succ n ih=>simp only [unl]; split <;> omega
   exact this _
  ·refine hr'.toF.weak (fun t x hx=>?_) (fun n y hy=>?_)
   ·rcases (slS_iff hdf).1 hx with ⟨k,_,_,_,h,_⟩ | ⟨_,h,_⟩
    ·rw [getD_repl] at h; cases h
    ·exact h
   ·rcases bxS_iff.1 hy with ⟨k,q,_,h,_⟩ | ⟨_,h⟩
    ·have h:(Array.replicate ops.size false).getD k false = true:=h;rw [getD_repl] at h; cases h
    ·exact h
 exact wpIn_mono hcode (fun e a' w' h=>h.2)
end
end Go.Proofs.YthnagpmnoncijaaGreat.M
