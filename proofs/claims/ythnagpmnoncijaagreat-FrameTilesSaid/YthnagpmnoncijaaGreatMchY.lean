/- A part of the proof. -/
import Derived.Test.YthnagpmnoncijaaGreatMchX
import Derived.OpenShut
import Derived.ChangeOld
import Derived.Carry
set_option linter.unusedVariables false
namespace Go.Proofs.YthnagpmnoncijaaGreat.M
open Go Go.RowKit
def inR (k:IntKind) (x:Int):Prop:=(Lit.int k x).wf = true
def okT:(t:Ty) -> t.T -> Prop
 | .int k,x=>inR k x
 | .bool,_=>True
 | .str,x=>x.size <= maxLen
 | .list t,l=>l.length <= maxLen /\ ∀ y ∈ l,okT t y
 | .pair a b,x=>okT a x.1 /\ okT b x.2
 | .unit,_=>True
def tyC (P:Program):Nat -> TypeId -> Option Ty
 | 0,_=>none
 | n + 1,t=>match P.underlying t with
  | some .bool=>some .bool
  | some (.int k)=>some (.int k)
  | some .string=>some .str
  | some (.slice e)=>match tyC P n e with
   | some ty=>if ty.n = P.cellsOf e /\ 0 < ty.n then some (.list ty) else none
   | none=>none
  | some (.struct fs)=>match tyFs (fun u=>match tyC P n u with
    | some ty=>if ty.n = P.cellsOf u then some ty else none
    | none=>none) fs.toList 0 with
   | some (ty,_)=>if ty.n = P.cellsOf t then some ty else none
   | none=>none
  | some (.array m e)=>match tyC P n e with
   | some ty=>if ty.n = P.cellsOf e /\ m * ty.n = P.cellsOf t then some (tyIs ty m) else none
   | none=>none
  | _=>none
def any2:Nat -> Nat -> Prop:=fun _ _=>True
def CellsD (w:World) (us:List Value) (ds:List D):Prop:=us.length = ds.length /\ ∀ (j:Nat) u x,us[j]? = some u -> ds[j]? = some x -> u.oneCell' = true /\ DV w any2 x u
theorem CellsD.append {w:World} {us us':List Value} {ds ds':List D} (h:CellsD w us ds) (h':CellsD w us' ds'):CellsD w (us ++ us') (ds ++ ds'):=by
 refine ⟨by simp [h.1,h'.1],fun j u x hu hx=>?_⟩
 by_cases hj:j < us.length
 ·rw [List.getElem?_append_left hj] at hu;rw [List.getElem?_append_left (by rw [<- h.1]; exact hj)] at hx
  exact h.2 j u x hu hx
 ·rw [List.getElem?_append_right (by omega)] at hu
  rw [List.getElem?_append_right (by rw [<- h.1]; omega),<- h.1] at hx
  exact h'.2 _ u x hu hx
theorem CellsD.one {w:World} {u:Value} {d:D} (h1:u.oneCell' = true) (h2:DV w any2 d u):CellsD w [u] [d]:=by
 refine ⟨rfl,fun j x y hx hy=>?_⟩
 cases j with
 | zero=>simp at hx hy; subst hx hy; exact ⟨h1,h2⟩
 | succ j=>simp at hx
def Reads (w:World) (us:List Value) (t:Ty):Prop:=∃ v:t.T,CellsD w us (enc t v) /\ okT t v
section
variable {H:Type} {encH:TypeId × Value -> H} {P:Program} {w:World} {sp:Nat -> Bool} {hd:Bool}
theorem cells_get {a:Addr} {n:Nat} {cs:List Value} (h:w.cells? 0 a n = some cs):cs.length = n /\ ∀ j u,cs[j]? = some u -> w.cell? (a.add j) = some u:=by
 unfold World.cells? at h;rw [if_pos (Nat.zero_le _)] at h;have hl:=mapM_some_length h;simp at hl;refine ⟨hl,fun j u hj=>?_⟩
 have hlt:j < n:=by have:=(List.getElem?_eq_some_iff.1 hj).1; omega
 have:=mapM_some_get h j j (by rw [List.getElem?_range hlt])
 rw [this,hj]
theorem fields_read {f:TypeId -> Option Ty} {g:TypeId -> List Value -> Option (DataW H × List MemPlace)} {cs:List Value}
  (ih:∀ t us x ty,g t us = some x -> f t = some ty -> Reads w us ty) (hf:∀ t ty,f t = some ty -> ty.n = P.cellsOf t) :
  ∀ (fs:List Field) (o:Nat) (xs:List (DataW H × List MemPlace)) (ty:Ty) (o':Nat),fs.mapM (fun q=>g q.type ((cs.drop q.offset).take (P.cellsOf q.type))) = some xs -> tyFs f fs o = some (ty,o') ->
   Reads w ((cs.drop o).take ty.n) ty
 | [],o,xs,ty,o',h,hl=>by
  simp [tyFs] at hl;obtain ⟨rfl,_⟩:=hl;exact ⟨(),⟨by simp [enc,Ty.n],fun j u x hu=>by simp [Ty.n] at hu⟩,trivial⟩
 | q :: fs,o,xs,ty,o',h,hl=>by
  simp only [tyFs] at hl;split at hl
  ·rename_i ho;split at hl
   ·rename_i t1 h1;rw [List.mapM_cons] at h;cases hg:g q.type ((cs.drop q.offset).take (P.cellsOf q.type)) with
    | none=>simp [hg] at h
    | some x=>
     cases hr:fs.mapM (fun q=>g q.type ((cs.drop q.offset).take (P.cellsOf q.type))) with
     | none=>simp [hg,hr] at h
     | some xs'=>
      have c1:=ih _ _ _ _ hg h1;rw [ho,<- hf _ _ h1] at c1;split at hl
      ·injection hl with hl;injection hl with hl1 hl2;subst hl1;exact c1
      ·rename_i q2 r2;split at hl
       ·rename_i t2 o2 h2;injection hl with hl;injection hl with hl1 hl2;subst hl1;obtain ⟨v1,e1,k1⟩:=c1;obtain ⟨v2,e2,k2⟩:=fields_read ih hf _ _ _ _ _ hr h2;refine ⟨(v1,v2),?_,k1,k2⟩;have:(cs.drop o).take (t1.n + t2.n) = (cs.drop o).take t1.n ++ (cs.drop (o + t1.n)).take t2.n:=by
         rw [List.take_add,List.drop_drop]
        show CellsD w ((cs.drop o).take (t1.n + t2.n)) (enc t1 v1 ++ enc t2 v2);rw [this];exact e1.append e2
       ·cases hl
   ·cases hl
  ·cases hl
theorem items_read {g:List Value -> Option (DataW H × List MemPlace)} {cs:List Value} {t:Ty} {sz:Nat} (hsz:t.n = sz)
  (ih:∀ us x,g us = some x -> Reads w us t) :
  ∀ (m o:Nat) (xs:List (DataW H × List MemPlace)),(List.range' o m).mapM (fun i=>g ((cs.drop (i * sz)).take sz)) = some xs ->
   Reads w ((cs.drop (o * sz)).take (m * sz)) (tyIs t m)
 | 0,o,xs,h=>⟨(),⟨by simp [enc,tyIs],fun j u x hu=>by simp at hu⟩,trivial⟩
 | 1,o,xs,h=>by
  rw [List.range'_succ,List.mapM_cons] at h;cases hg:g ((cs.drop (o * sz)).take sz) with
  | none=>simp [hg] at h
  | some x=>
   have:=ih _ _ hg;rw [Nat.one_mul];exact this
 | m + 2,o,xs,h=>by
  rw [List.range'_succ,List.mapM_cons] at h;cases hg:g ((cs.drop (o * sz)).take sz) with
  | none=>simp [hg] at h
  | some x=>
   cases hr:(List.range' (o + 1) (m + 1)).mapM (fun i=>g ((cs.drop (i * sz)).take sz)) with
   | none=>simp [hg,hr] at h
   | some xs'=>
    obtain ⟨v1,c1,k1⟩:=ih _ _ hg;obtain ⟨v2,c2,k2⟩:=items_read hsz ih (m + 1) (o + 1) _ hr;refine ⟨(v1,v2),?_,k1,k2⟩;have e1:(m + 2) * sz = sz + (m + 1) * sz:=by rw [show m + 2 = (m + 1) + 1 from rfl,Nat.add_mul]; omega
    have e2:(o + 1) * sz = o * sz + sz:=by rw [Nat.add_mul]; omega
    rw [e1,List.take_add,List.drop_drop,<- e2];exact c1.append c2
def default':(t:Ty) -> t.T
 | .int _=>(0:Int)
 | .bool=>false
 | .str=>ByteArray.empty
 | .list _=>[]
 | .pair a b=>(default' a,default' b)
 | .unit=>()
theorem slice_read {a:Addr} {e:TypeId} {len cap:Nat} {t:Ty} {xs:List (DataW H × List MemPlace)} {f:List Value -> Option (DataW H × List MemPlace)} (hlen:t.n = P.cellsOf e) (h0:0 < t.n) (hlc:len <= cap) (hcm:cap <= maxLen)
  (ih:∀ us q,f us = some q -> Reads w us t)
  (hm:(List.range len).mapM (fun i=>(w.cells? 0 (a.add (i * P.cellsOf e)) (P.cellsOf e)).bind f) = some xs):Reads w [.slice (some a) len cap] (.list t):=by
 have hxl:=mapM_some_length hm;rw [List.length_range] at hxl;have each:∀ i,i < len -> ∃ q:List Value × t.T,w.cells? 0 (a.add (i * P.cellsOf e)) (P.cellsOf e) = some q.1 /\ CellsD w q.1 (enc t q.2) /\ okT t q.2:=fun i hi=>by
  have hg:=mapM_some_get hm i i (by rw [List.getElem?_range hi])
  cases hc:w.cells? 0 (a.add (i * P.cellsOf e)) (P.cellsOf e) with
  | none=>
   rw [hc] at hg;have hg:=hg.symm;simp only [Option.bind_none,List.getElem?_eq_none_iff] at hg;omega
  | some us=>
   rw [hc] at hg;simp only [Option.bind_some] at hg;cases hq:f us with
   | none=>
    rw [hq] at hg;have hg:=hg.symm;rw [List.getElem?_eq_none_iff] at hg;omega
   | some q=>
    obtain ⟨v,c1,c2⟩:=ih us q hq;exact ⟨(us,v),rfl,c1,c2⟩
 have all:∀ n,n <= len -> ∃ Q:List (List Value × t.T),Q.length = n /\ ∀ (i:Nat) q,Q[i]? = some q -> w.cells? 0 (a.add (i * P.cellsOf e)) (P.cellsOf e) = some q.1 /\ CellsD w q.1 (enc t q.2) /\ okT t q.2:=by
  intro n;induction n with
  | zero=>intro _; exact ⟨[],rfl,by simp⟩
  | succ n ihn=>
   intro hn;obtain ⟨Q,hl,hQ⟩:=ihn (by omega)
   obtain ⟨q,hq⟩:=each n (by omega)
   refine ⟨Q ++ [q],by simp [hl],fun i q' hq'=>?_⟩
   by_cases hi:i < Q.length
   ·rw [List.getElem?_append_left hi] at hq';exact hQ i q' hq'
   ·rw [List.getElem?_append_right (by omega)] at hq'
    have h0:i - Q.length = 0:=by
     have:=(List.getElem?_eq_some_iff.1 hq').1;simp at this; omega
    rw [h0] at hq';simp at hq';subst hq';rw [show i = n from by omega]
    exact hq
 obtain ⟨Q,hQl,hQ⟩:=all len (Nat.le_refl _);refine ⟨Q.map (·.2),CellsD.one rfl ?_,by simp; omega,fun y hy=>?_⟩
 ·by_cases hl0:len = 0
  ·subst hl0;have:Q = []:=List.eq_nil_of_length_eq_zero hQl;subst this;exact .emp _ _ _ hcm
  ·have hcell:∀ i j,i < len -> j < t.n -> ∃ q,Q[i]? = some q /\ q.1.length = t.n /\ w.cell? ((a.add (i * P.cellsOf e)).add j) = some (q.1.getD j undef):=fun i j hi hj=>by
    have hq:=List.getElem?_eq_getElem (l:=Q) (i:=i) (by omega)
    obtain ⟨h1,h2,h3⟩:=hQ i _ hq;obtain ⟨c1,c2⟩:=cells_get h1;refine ⟨_,hq,by rw [c1,hlen],c2 j _ ?_⟩
    rw [List.getD_eq_getElem?_getD,List.getElem?_eq_getElem (by omega)]
    rfl
   have hspot:a.spot = none:=by
    obtain ⟨q,_,_,h⟩:=hcell 0 0 (by omega) (by omega)
    simpa [Addr.add] using World.cell?_spot h
   obtain ⟨b,off,spot⟩:=a;simp only at hspot;subst hspot
   have key:=DV.lst (w:=w) (k:=any2) t (Q.map (·.2)) b off cap (fun i j=>((Q[i]?).getD ([],default' t)).1.getD j undef) (fun i j hi hj=>by
     have hi:i < len:=by simpa [hQl] using hi
     obtain ⟨q,k1,k2,k3⟩:=hcell i j hi hj;rw [k1];rw [Addr.add_mid,Addr.add_mid,<- hlen] at k3;exact ⟨k3,trivial⟩) (fun i j hi hj=>by
     have hi:i < len:=by simpa [hQl] using hi
     obtain ⟨q,k1,k2,k3⟩:=hcell i j hi hj;obtain ⟨h1,h2,h3⟩:=hQ i q k1;rw [k1];have hu:q.1[j]? = some (q.1.getD j undef):=by rw [List.getD_eq_getElem?_getD,List.getElem?_eq_getElem (by omega)]; rfl
     obtain ⟨d,hd⟩:∃ d,(enc t q.2)[j]? = some d:=⟨_,List.getElem?_eq_getElem (by rw [enc_length]; exact hj)⟩
     exact (h2.2 j _ d hu hd).1) (fun i j e' d he hd=>by
     rw [List.getElem?_map] at he;cases hq:Q[i]? with
     | none=>rw [hq] at he; cases he
     | some q=>
      rw [hq] at he;injection he with he;subst he;obtain ⟨h1,h2,h3⟩:=hQ i q hq;have hj:j < t.n:=by have:=(List.getElem?_eq_some_iff.1 hd).1; rwa [enc_length] at this
      have hql:q.1.length = t.n:=by rw [h2.1,enc_length]
      have hu:q.1[j]? = some (q.1.getD j undef):=by rw [List.getD_eq_getElem?_getD,List.getElem?_eq_getElem (by omega)]; rfl
      exact (h2.2 j _ d hu hd).2) (by simp; omega) hcm
   simp only [List.length_map,hQl] at key;exact key
 ·obtain ⟨q,hq,rfl⟩:=List.mem_map.1 hy;obtain ⟨i,hi⟩:=List.mem_iff_getElem?.1 hq;exact (hQ i q hi).2.2
theorem readD:∀ (fuel n:Nat) (t:TypeId) (cs:List Value) (x:DataW H × List MemPlace) (ty:Ty),DataW.trod encH P w 0 sp hd fuel t cs = some x -> tyC P n t = some ty -> Reads w cs ty:=by
 intro fuel;induction fuel with
 | zero=>intro n t cs x ty h; simp [DataW.trod] at h
 | succ fuel ih=>
  intro n t cs x ty h hl;cases n with
  | zero=>simp [tyC] at hl
  | succ n=>
   unfold tyC at hl;unfold DataW.trod at h;cases hu:P.underlying t with
   | none=>simp [hu] at hl
   | some td=>
    simp only [hu] at h hl;cases td with
    | bool=>
     simp at hl; subst hl;rcases cs with _ | ⟨c,_ | ⟨c2,r⟩⟩ <;> simp at h
     cases c <;> simp at h;rename_i b;exact ⟨b,CellsD.one rfl (.v _ rfl),trivial⟩
    | int k=>
     simp at hl; subst hl;rcases cs with _ | ⟨c,_ | ⟨c2,r⟩⟩ <;> simp at h
     cases c <;> simp at h;rename_i k' m;obtain ⟨⟨rfl,hw⟩,_⟩:=h;exact ⟨m,CellsD.one rfl (.v _ rfl),hw⟩
    | string=>
     simp at hl; subst hl;rcases cs with _ | ⟨c,_ | ⟨c2,r⟩⟩ <;> simp at h
     cases c <;> simp at h;rename_i b;exact ⟨b,CellsD.one rfl (.v _ rfl),h.1⟩
    | «struct» fs=>
     simp only at hl h;split at hl
     ·rename_i t1 o1 h1;split at hl
      ·rename_i hlen;injection hl with hl; subst hl
       split at h
       ·rename_i hcs;cases hm:fs.toList.mapM (fun f=>DataW.trod encH P w 0 sp hd fuel f.type ((cs.drop f.offset).take (P.cellsOf f.type))) with
        | none=>simp [hm] at h
        | some xs=>
         have c:=fields_read (w:=w) (P:=P) (g:=fun t us=>DataW.trod encH P w 0 sp hd fuel t us) (cs:=cs)
          (f:=fun u=>match tyC P n u with
           | some ty=>if ty.n = P.cellsOf u then some ty else none
           | none=>none)
          (fun t us x ty hg hf=>by
           split at hf
           ·rename_i l2 h2;split at hf
            ·injection hf with hf; subst hf; exact ih n t us x l2 hg h2
            ·cases hf
           ·cases hf)
          (fun t ty hf=>by
           split at hf
           ·split at hf
            ·injection hf with hf; subst hf; assumption
            ·cases hf
           ·cases hf) fs.toList 0 xs t1 o1 hm h1
         rw [List.drop_zero,hlen,<- hcs,List.take_length] at c;exact c
       ·cases h
      ·cases hl
     ·cases hl
    | array m e=>
     simp only at hl h;split at hl
     ·rename_i t1 h1;split at hl
      ·rename_i hlen;injection hl with hl; subst hl
       split at h
       ·rename_i hcs;cases hm:(List.range m).mapM (fun i=>DataW.trod encH P w 0 sp hd fuel e ((cs.drop (i * P.cellsOf e)).take (P.cellsOf e))) with
        | none=>simp [hm] at h
        | some xs=>
         rw [List.range_eq_range'] at hm;have c:=items_read (w:=w) (g:=fun us=>DataW.trod encH P w 0 sp hd fuel e us) (cs:=cs) hlen.1 (fun us x hg=>ih n e us x t1 hg h1) m 0 xs hm
         have e1:m * P.cellsOf e = cs.length:=by rw [<- hlen.1,hlen.2,hcs]
         rw [Nat.zero_mul,List.drop_zero,e1,List.take_length] at c;exact c
       ·cases h
      ·cases hl
     ·cases hl
    | slice e=>
     simp only at hl h;split at hl
     ·rename_i t1 h1;split at hl
      ·rename_i hlen;injection hl with hl; subst hl
       rcases cs with _ | ⟨c,_ | ⟨c2,r⟩⟩
       ·cases h
       ·cases c with
        | slice a len cap=>
         cases a with
         | none=>
          cases len with
          | zero=>
           cases cap with
           | zero=>exact ⟨[],CellsD.one rfl (.emp _ none 0 (Nat.zero_le _)),Nat.zero_le _,by simp⟩
           | succ cap=>cases h
          | succ len=>cases h
         | some a=>
          dsimp only at h;split at h
          ·rename_i hb;obtain ⟨_,hlc,hcm⟩:=hb;cases hm:(List.range len).mapM (fun i=>(w.cells? 0 (a.add (i * P.cellsOf e)) (P.cellsOf e)).bind (DataW.trod encH P w 0 sp hd fuel e)) with
           | none=>simp [hm] at h
           | some xs=>exact slice_read hlen.1 hlen.2 hlc hcm (fun us q hq=>ih n e us q t1 hq h1) hm
          ·cases h
        | _=>cases h
       ·cases c <;> first | (cases h; done) | (rename_i aa bb cc; cases aa <;> first | (cases h; done) | (cases bb <;> first | (cases h; done) | (cases cc <;> cases h)))
      ·cases hl
     ·cases hl
    | _=>simp at hl
end
end Go.Proofs.YthnagpmnoncijaaGreat.M
