/- A part of the proof. -/
import Derived.Test.YthnagpmnoncijaaGreatMchF
set_option linter.unusedVariables false
namespace Go.Proofs.YthnagpmnoncijaaGreat.M
open Go Go.RowKit
theorem lookup_mem {α:Type}:∀ {l:List (Nat × α)} {t:Nat} {x:α},l.lookup t = some x -> (t,x) ∈ l
 | (k,y) :: r,t,x,h=>by
  rw [List.lookup_cons] at h;by_cases hk:t == k
  ·simp only [hk] at h;injection h with h;subst h;have:t = k:=by simpa using hk
   subst this;exact List.mem_cons_self ..
  ·simp only [hk] at h;exact List.mem_cons_of_mem _ (lookup_mem h)
theorem lookup_of_mem {α:Type}:∀ {l:List (Nat × α)} {t:Nat} {x:α},Uniq l -> (t,x) ∈ l -> l.lookup t = some x
 | (k,y) :: r,t,x,hu,h=>by
  unfold Uniq at hu;simp only [List.map_cons,List.nodup_cons] at hu;rw [List.lookup_cons];rcases List.mem_cons.1 h with h' | h'
  ·injection h' with h1 h2;subst h1; subst h2;simp
  ·have hk:(t == k) = false:=by
    rw [beq_eq_false_iff_ne];intro e;exact hu.1 (List.mem_map.2 ⟨(t,x),h',e⟩)
   simp only [hk];exact lookup_of_mem hu.2 h'
theorem Uniq.filter {α:Type} {l:List (Nat × α)} (h:Uniq l) (p:Nat × α -> Bool):Uniq (l.filter p):=by
 unfold Uniq at *
 exact List.Nodup.sublist ((List.filter_sublist (l:=l)).map _) h
theorem lookup_filter {α:Type} {l:List (Nat × α)} (hu:Uniq l) {p:Nat × α -> Bool} {t:Nat} {x:α} (h:(l.filter p).lookup t = some x):l.lookup t = some x /\ p (t,x) = true:=by
 have hm:=lookup_mem h;rw [List.mem_filter] at hm;exact ⟨lookup_of_mem hu hm.1,hm.2⟩
theorem Uniq.cons {α:Type} {l:List (Nat × α)} (h:Uniq l) {d:Nat} {x:α} (hd:∀ q ∈ l,q.1 ≠ d):Uniq ((d,x) :: l):=by
 unfold Uniq at *
 rw [List.map_cons,List.nodup_cons];refine ⟨fun hm=>?_,h⟩
 obtain ⟨q,hq,e⟩:=List.mem_map.1 hm;exact hd q hq e
theorem St.Ok.app {s:St} (h:s.Ok) (d:Nat) (v:SV) (b:Option (Nat × List Cell)):(s.app d v b).Ok:=by
 cases b with
 | none=>exact ⟨(h.slots.filter _).cons fun q hq=>by simpa using (List.mem_filter.1 hq).2 |> fun z=>(by simp at z; exact z.1),h.boxes⟩
 | some b=>
  refine ⟨((h.slots.filter _).filter _).cons fun q hq=>?_,(h.boxes.filter _).cons fun q hq=>?_⟩
  ·have:=(List.mem_filter.1 hq).2;simp at this;exact this.1
  ·have:=(List.mem_filter.1 hq).2;simp at this;exact this.1
section
variable {P:Program} {E:Env} {s:St} {a:Act} {w:World} {g:Gh} {o:Oper} {want:Bool} {h:Option Hint} {v:SV} {ob:Prop}
theorem callsIn_any {r:Option Nat} {n m:Nat} {f:FuncId} {args:Array Value} {R:Ending -> World -> Prop} (h:CallsIn (Fr r) n P f args w R):CallsIn (Fr r) m P f args w R:=
 ⟨h.1,fun cs _=>h.2 cs (fun d hd=>by simp [Fr] at hd)⟩
theorem wpIn_value {r:Option Nat} {u:Value} {K:Act -> World -> Prop} {Q:Exit -> Act -> World -> Prop} {w':World} (hnd:∀ c,o.op ≠ .defer c) (hrun:(execOp a.eval o).run P w = .ok (.value u) w') (hk:K (a.put o.dst u) w') :
  o.wpIn (Fr r) 9 P a w K Q:=by
 refine ⟨fun _ _=>trivial,?_⟩
 have hs:o.semAt (Fr r).round a.eval = execOp a.eval o:=Oper.semAt_eq _ _ _ hnd;rw [hs,hrun];exact hk
theorem wpIn_skip' {r:Option Nat} {K:Act -> World -> Prop} {Q:Exit -> Act -> World -> Prop} {w':World} (hnd:∀ c,o.op ≠ .defer c) (hrun:(execOp a.eval o).run P w = .ok .skip w') (hk:K (a.put o.dst undef) w') :
  o.wpIn (Fr r) 9 P a w K Q:=by
 refine ⟨fun _ _=>trivial,?_⟩
 have hs:o.semAt (Fr r).round a.eval = execOp a.eval o:=Oper.semAt_eq _ _ _ hnd;rw [hs,hrun];exact hk
theorem wpIn_enter {r:Option Nat} {f:FuncId} {args:Array Value} {K:Act -> World -> Prop} {Q:Exit -> Act -> World -> Prop} {w':World} (hnd:∀ c,o.op ≠ .defer c) (hrun:(execOp a.eval o).run P w = .ok (.enter f args) w')
  (hk:CallsIn (Fr r) 9 P f args w' fun e w''=>∃ u,e = .returned u /\ K (a.put o.dst u) w''):o.wpIn (Fr r) 9 P a w K Q:=by
 refine ⟨fun _ _=>trivial,?_⟩
 have hs:o.semAt (Fr r).round a.eval = execOp a.eval o:=Oper.semAt_eq _ _ _ hnd;rw [hs,hrun];refine ⟨fun h=>by simp [Fr] at h,(callsIn_any (m:=9 - 1) hk).mono fun e w'' he=>?_⟩
 obtain ⟨u,rfl,hk⟩:=he;exact hk
def slApp (sl:Sl) (d:Nat) (v:SV) (b:Option (Nat × List Cell)):Sl:=fun t=>if t = d then some v else match sl t with
 | some y=>if y.refs d || (b.isSome && y.mentions d) then none else some y
 | none=>none
def bxApp (bx:Bx) (d:Nat) (b:Option (Nat × List Cell)):Bx:=match b with
 | none=>bx
 | some q=>fun n=>if n = d then some q else match bx n with
  | some y=>if y.2.any (Cell.mentions d) then none else some y
  | none=>none
variable {sl:Sl} {bx:Bx}
theorem appF_put (hF:RelF E sl bx a w g) {d:Nat} (hd:d < E.N) {u:Value} (hv:SVR (ctx E g a w) (.slot d) v u) (hrf:v.refs d = false):RelF E (slApp sl d v none) (bxApp bx d none) (a.put (some d) u) w g:=by
 refine (hF.put hd hv hrf).weak (fun t x hx=>?_) (fun n q hq=>hq)
 unfold slApp at hx;unfold upd;by_cases ht:t = d
 ·simp only [ht,if_true] at hx ⊢; exact hx
 ·simp only [ht,if_false] at hx ⊢;cases hs:sl t with
  | none=>simp [hs] at hx
  | some y=>simpa [hs] using hx
theorem appF_grow (hF:RelF E sl bx a w g) {d:Nat} (hd:d < E.N) {u:Value} {w':World} {perm:Nat -> Perm} (hb:Below w.heap.size w w') (hp:∀ b,b < w.heap.size -> perm b = g.perm b) (hlo:∀ b,w.heap.size <= b -> perm b ≠ .free -> b < w'.heap.size)
  (hv:SVR (ctx E ⟨g.ι,perm,g.dy⟩ a w') (.slot d) v u) (hrf:v.refs d = false):RelF E (slApp sl d v none) (bxApp bx d none) (a.put (some d) u) w' ⟨g.ι,perm,g.dy⟩:=
 appF_put (hF.grow (g':=⟨g.ι,perm,g.dy⟩) hb (fun _ _=>rfl) hp hlo (fun _ _=>rfl) rfl) hd hv hrf
theorem perm_newF (hF:RelF E sl bx a w g):g.perm w.heap.size = .free:=by
 cases hq:g.perm w.heap.size with
 | free=>rfl
 | _=>have:=(hF.lo w.heap.size (by rw [hq]; simp)).2; omega
theorem appF_box (hF:RelF E sl bx a w g) {d e:Nat} {cs:List Cell} {us:List Value} (he:e < spc) (hd:d < E.N) (hl:us.length = cs.length) (hno:cs.any Cell.isOwn = false) (hnt:∀ c ∈ cs,c.target = none) (hnm:∀ c ∈ cs,∀ n,c.mentions n = true -> n ≠ d)
  (hc:∀ (i:Nat) x y,cs[i]? = some x -> us[i]? = some y -> y.oneCell' = true /\ ∃ p,CV (ctx E g a w) p x y) :
  ∃ g',RelF E (slApp sl d ⟨.one,[.ptr d 0]⟩ (some (e,cs))) (bxApp bx d (some (e,cs))) (a.put (some d) (.pointer (some ⟨w.heap.size,0,none⟩))) (w.alloc (.cells us.toArray e)) g':=by
 let g':Gh:=⟨fun n=>if n = d then w.heap.size else g.ι n,fun b=>if b = w.heap.size then .box d else g.perm b,g.dy⟩
 refine ⟨g',?_⟩;have hfree:=perm_newF hF;have hbel:Below w.heap.size w (w.alloc (.cells us.toArray e)):=(Below.refl _ _).alloc (Nat.le_refl _) _
 let sl':Sl:=fun t=>match sl t with
  | some y=>if y.mentions d then none else some y
  | none=>none
 let bx':Bx:=fun n=>if n = d then none else match bx n with
  | some y=>if y.2.any (Cell.mentions d) then none else some y
  | none=>none
 have hsl':∀ t x,sl' t = some x -> sl t = some x /\ x.mentions d = false:=fun t x hx=>by
  simp only [sl'] at hx;cases hs:sl t with
  | none=>simp [hs] at hx
  | some y=>
   simp only [hs] at hx;split at hx
   ·simp at hx
   ·rename_i hm;injection hx with hx;subst hx;exact ⟨rfl,by simpa using hm⟩
 have hbx':∀ n q,bx' n = some q -> bx n = some q /\ n ≠ d /\ q.2.any (Cell.mentions d) = false:=fun n q hq=>by
  simp only [bx'] at hq;split at hq
  ·simp at hq
  ·rename_i hnd;cases hs:bx n with
   | none=>simp [hs] at hq
   | some y=>
    simp only [hs] at hq;split at hq
    ·simp at hq
    ·rename_i hm;injection hq with hq;subst hq;exact ⟨rfl,hnd,by simpa using hm⟩
 have h1:RelF E sl' bx' a w g:=hF.weak (fun t x hx=>(hsl' t x hx).1) (fun n q hq=>(hbx' n q hq).1)
 have h2:RelF E sl' bx' a (w.alloc (.cells us.toArray e)) g':=by
  refine h1.grow (g':=g') hbel (fun n hn=>?_) (fun b hb=>by simp only [g']; rw [if_neg (by omega)]) (fun b hb hf=>?_) (fun n hn=>by
   have h1:=Nat.mod_le n sh;have h2:=E.hN
   simp only [g']; rw [if_neg (by omega)]) rfl
  ·have:n ≠ d:=by
    rcases hn with ⟨x,hx⟩ | ⟨t,x,hx,hm⟩ | ⟨m,e',cs',hx,c,hc',hm⟩
    ·exact (hbx' n x hx).2.1
    ·intro e'; subst e';have:=(hsl' t x hx).2;rw [hm] at this;cases this
    ·intro e'; subst e';have:=(hbx' m _ hx).2.2;rw [List.any_eq_false] at this;exact absurd hm (by simpa using this c hc')
   simp only [g',if_neg this]
  ·simp only [g'] at hf;split at hf
   ·simp; omega
   ·have:=(hF.lo b hf).2; simp; omega
 have hheap:(w.alloc (.cells us.toArray e)).heap[w.heap.size]? = some (.cells us.toArray e (0,0)):=heap_alloc_new w _;have h3:RelF E sl' (fun n=>if n = d then some (e,cs) else bx' n) a (w.alloc (.cells us.toArray e)) g':=by
  refine { h2 with boxes:=fun n e' cs' hn=>?_,nt:=fun n e' cs' hn=>?_ }
  ·by_cases hnd:n = d
   ·subst hnd;simp at hn;obtain ⟨rfl,rfl⟩:=hn;refine ⟨by simp [g'],.mk he ⟨us,by simp only [g',if_true]; exact hheap,hl,fun i x y hx hy=>?_⟩⟩
    obtain ⟨k1,p,k2⟩:=hc i x y hx hy;have hxo:x.isOwn = false:=by
     rw [List.any_eq_false] at hno;simpa using hno x (List.mem_of_getElem? hx)
    have hk:∀ b j z,(ctx E g a w).k b j -> w.cell? ⟨b,j,none⟩ = some z -> (w.alloc (.cells us.toArray e)).cell? ⟨b,j,none⟩ = some z /\ (ctx E g' a (w.alloc (.cells us.toArray e))).k b j:=fun b j z z1 z2=>by
     have hbl:b < w.heap.size:=World.block_lt_of_cell? w ⟨b,j,none⟩ z2;refine ⟨(hbel.cell (p:=⟨b,j,none⟩) hbl).trans z2,?_⟩;simp only [ctx,ok,okp,g'] at z1 ⊢;rw [if_neg (show ¬ b = w.heap.size by omega)]
     exact z1
    refine ⟨k1,(k2.place (q:=.box n i) hxo).mono hk (kp_mono (fun b hb _=>hbel.block b (by have:=hF.base; omega)) hk) (fun q b tip hq=>?_) (fun m hm=>?_) (fun q z hq=>?_) (Imm.grow hbel)⟩
    ·rcases hq with ⟨hq,_⟩ | hq
     ·rw [hxo] at hq; cases hq
     ·rw [hnt x (List.mem_of_getElem? hx)] at hq; cases hq
    ·have:=hnm x (List.mem_of_getElem? hx) m hm;simp only [ctx,g',if_neg this]
    ·rw [hnt x (List.mem_of_getElem? hx)] at hq; cases hq
   ·simp only [hnd,if_false] at hn;exact h2.boxes n e' cs' hn
  ·by_cases hnd:n = d
   ·subst hnd;simp at hn;obtain ⟨rfl,rfl⟩:=hn;exact hnt
   ·simp only [hnd,if_false] at hn;exact h2.nt n e' cs' hn
 have h4:=h3.put (d:=d) (x:=⟨.one,[.ptr d 0]⟩) (u:=.pointer (some ⟨w.heap.size,0,none⟩)) hd (SVR.of_one rfl (by simp [CV,ctx,g'])) rfl
 refine h4.weak (fun t x hx=>?_) (fun n q hq=>?_)
 ·unfold slApp at hx;unfold upd;by_cases ht:t = d
  ·simp only [ht,if_true] at hx ⊢; exact hx
  ·simp only [ht,if_false] at hx ⊢;cases hs:sl t with
   | none=>simp [hs] at hx
   | some y=>
    simp only [hs,Option.isSome_some,Bool.true_and] at hx;split at hx
    ·simp at hx
    ·rename_i hy;injection hx with hx;subst hx;simp at hy;simp [sl',hs,hy.1,hy.2]
 ·unfold bxApp at hq;by_cases ht:n = d
  ·subst ht; simpa using hq
  ·simp only [ht,if_false] at hq ⊢;simp only [bx',ht,if_false];exact hq
theorem appF_made (hF:RelF E sl bx a w g) {d e b:Nat} {cs:List Cell} {w':World} {g':Gh} (hd:d < E.N) (hbel:Below w.heap.size w w') (hι:∀ n,n ≠ d -> g'.ι n = g.ι n) (hp:∀ b,b < w.heap.size -> g'.perm b = g.perm b) (hlo:∀ b,w.heap.size <= b -> g'.perm b ≠ .free -> b < w'.heap.size) (hdy:g'.dy = g.dy)
  (hdy2:g'.dy = g.dy) (hιd:g'.ι d = b) (hpb:g'.perm b = .box d) (hnt:∀ c ∈ cs,c.target = none) (hv:BoxV (ctx E g' a w') b d e cs) :
  RelF E (slApp sl d ⟨.one,[.ptr d 0]⟩ (some (e,cs))) (bxApp bx d (some (e,cs))) (a.put (some d) (.pointer (some ⟨b,0,none⟩))) w' g':=by
 let sl':Sl:=fun t=>match sl t with
  | some y=>if y.mentions d then none else some y
  | none=>none
 let bx':Bx:=fun n=>if n = d then none else match bx n with
  | some y=>if y.2.any (Cell.mentions d) then none else some y
  | none=>none
 have hsl':∀ t x,sl' t = some x -> sl t = some x /\ x.mentions d = false:=fun t x hx=>by
  simp only [sl'] at hx;cases hs:sl t with
  | none=>simp [hs] at hx
  | some y=>
   simp only [hs] at hx;split at hx
   ·simp at hx
   ·rename_i hm;injection hx with hx;subst hx;exact ⟨rfl,by simpa using hm⟩
 have hbx':∀ n q,bx' n = some q -> bx n = some q /\ n ≠ d /\ q.2.any (Cell.mentions d) = false:=fun n q hq=>by
  simp only [bx'] at hq;split at hq
  ·simp at hq
  ·rename_i hnd;cases hs:bx n with
   | none=>simp [hs] at hq
   | some y=>
    simp only [hs] at hq;split at hq
    ·simp at hq
    ·rename_i hm;injection hq with hq;subst hq;exact ⟨rfl,hnd,by simpa using hm⟩
 have h1:RelF E sl' bx' a w g:=hF.weak (fun t x hx=>(hsl' t x hx).1) (fun n q hq=>(hbx' n q hq).1)
 have h2:RelF E sl' bx' a w' g':=by
  refine h1.grow (g':=g') hbel (fun n hn=>?_) hp hlo (fun n hn=>by
   have h1:=Nat.mod_le n sh;have h2:=E.hN
   exact hι n (by omega)) hdy
  ·have:n ≠ d:=by
    rcases hn with ⟨x,hx⟩ | ⟨t,x,hx,hm⟩ | ⟨m,e',cs',hx,c,hc',hm⟩
    ·exact (hbx' n x hx).2.1
    ·intro e'; subst e';have:=(hsl' t x hx).2;rw [hm] at this;cases this
    ·intro e'; subst e';have:=(hbx' m _ hx).2.2;rw [List.any_eq_false] at this;exact absurd hm (by simpa using this c hc')
   exact hι n this
 have h3:RelF E sl' (fun n=>if n = d then some (e,cs) else bx' n) a w' g':=by
  refine { h2 with boxes:=fun n e' cs' hn=>?_,nt:=fun n e' cs' hn=>?_ }
  ·by_cases hnd:n = d
   ·subst hnd;simp at hn;obtain ⟨rfl,rfl⟩:=hn;exact ⟨by rw [hιd]; exact hpb,by rw [hιd]; exact hv⟩
   ·simp only [hnd,if_false] at hn;exact h2.boxes n e' cs' hn
  ·by_cases hnd:n = d
   ·subst hnd;simp at hn;obtain ⟨rfl,rfl⟩:=hn;exact hnt
   ·simp only [hnd,if_false] at hn;exact h2.nt n e' cs' hn
 have h4:=h3.put (d:=d) (x:=⟨.one,[.ptr d 0]⟩) (u:=.pointer (some ⟨b,0,none⟩)) hd (SVR.of_one rfl (by show Value.pointer (some ⟨b,0,none⟩) = .pointer (some ⟨g'.ι d,0,none⟩); rw [hιd])) rfl
 refine h4.weak (fun t x hx=>?_) (fun n q hq=>?_)
 ·unfold slApp at hx;unfold upd;by_cases ht:t = d
  ·simp only [ht,if_true] at hx ⊢; exact hx
  ·simp only [ht,if_false] at hx ⊢;cases hs:sl t with
   | none=>simp [hs] at hx
   | some y=>
    simp only [hs,Option.isSome_some,Bool.true_and] at hx;split at hx
    ·simp at hx
    ·rename_i hy;injection hx with hx;subst hx;simp at hy;simp [sl',hs,hy.1,hy.2]
 ·unfold bxApp at hq;by_cases ht:n = d
  ·subst ht; simpa using hq
  ·simp only [ht,if_false] at hq ⊢;simp only [bx',ht,if_false];exact hq
theorem app_slots (hs:s.Ok) {d:Nat} {b:Option (Nat × List Cell)} {t:Nat} {x:SV} (hx:(s.app d v b).slots.lookup t = some x):slApp (fun t=>s.slots.lookup t) d v b t = some x:=by
 unfold slApp;cases b with
 | none=>
  simp only [St.app,List.lookup_cons] at hx;by_cases ht:t = d
  ·subst ht; simp at hx ⊢; exact hx
  ·have hb:(t == d) = false:=by simpa using ht
   simp only [hb] at hx;obtain ⟨k1,k2⟩:=lookup_filter hs.slots hx;simp at k2;simp [ht,k1,k2.2]
 | some b=>
  simp only [St.app,List.lookup_cons] at hx;by_cases ht:t = d
  ·subst ht; simp at hx ⊢; exact hx
  ·have hb:(t == d) = false:=by simpa using ht
   simp only [hb] at hx;obtain ⟨k1,k2⟩:=lookup_filter (hs.slots.filter _) hx;obtain ⟨k3,k4⟩:=lookup_filter hs.slots k1;simp at k2 k4;simp [ht,k3,k2.2,k4]
theorem app_boxes (hs:s.Ok) {d:Nat} {b:Option (Nat × List Cell)} {n:Nat} {x:Nat × List Cell} (hx:(s.app d v b).boxes.lookup n = some x):bxApp (fun t=>s.boxes.lookup t) d b n = some x:=by
 unfold bxApp;cases b with
 | none=>exact hx
 | some b=>
  simp only [St.app,List.lookup_cons] at hx;by_cases ht:n = d
  ·subst ht; simp at hx ⊢; exact hx
  ·have hb:(n == d) = false:=by simpa using ht
   simp only [hb] at hx;obtain ⟨k1,k2⟩:=lookup_filter hs.boxes hx;simp only [ht,if_false,k1];have hm:x.2.any (Cell.mentions d) = false:=by
    simp at k2;rw [List.any_eq_false];intro c hc;have:=k2.2 c hc;simpa using this
   rw [hm];simp
end
end Go.Proofs.YthnagpmnoncijaaGreat.M
