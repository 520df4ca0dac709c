/- A part of the proof. -/
import Derived.Test.YthnagpmnoncijaaGreatMchM
set_option linter.unusedVariables false
namespace Go.Proofs.YthnagpmnoncijaaGreat.M
open Go Go.RowKit
section
variable {P:Program} {E:Env} {s s':St} {a:Act} {w:World} {g:Gh} {o:Oper} {ob:Cnd} {r:Option Nat} {Q:Exit -> Act -> World -> Prop} {N:Nat} {h:Option Hint}
theorem append_op_run {c:Call} {x y:Operand} {t:TypeId} {u v v':Value} {w':World} (hop:o.op = .call c) (hc:c.callee = .builtin .append) (ha:c.args.toList = [x,y]) (ht:c.argTypes.toList = [t,t]) (hx:a.eval x = u) (hy:a.eval y = v)
  (hrun:(Builtin.append_ #[t,t] o.type #[u,v]).run P w = .ok v' w'):(execOp a.eval o).run P w = .ok (.value v') w':=by
 have h1:c.args = #[x,y]:=by cases hh:c.args; simp_all
 have h2:c.argTypes = #[t,t]:=by cases hh:c.argTypes; simp_all
 simp only [execOp,hop,resolve,hc,h1,h2,Sem.run_bind,Sem.run_pure,Result.andThen_ok,invoke,builtin];simp [hx,hy,hrun]
theorem slots_put {l:List (Nat × SV)} (hu:Uniq l) {d:Nat} {v:SV} {t:Nat} {x:SV} (h:((d,v) :: dropRefs d l).lookup t = some x):upd (fun t=>l.lookup t) d v t = some x:=by
 simp only [List.lookup_cons] at h;unfold upd;by_cases ht:t = d
 ·subst ht; simp at h ⊢; exact h
 ·have hb:(t == d) = false:=by simpa using ht
  simp only [hb] at h;obtain ⟨k1,k2⟩:=lookup_filter hu h;simp at k2;simp only [ht,if_false,k1,k2.2];simp
theorem Uniq.put {l:List (Nat × SV)} (hu:Uniq l) (d:Nat) (v:SV):Uniq ((d,v) :: dropRefs d l):=
 (hu.filter _).cons fun q hq=>by
  have:=(List.mem_filter.1 hq).2;simp at this;exact this.1
theorem growing_sound {e d:Nat} {ty t:Ty} {cx:Cell} {x:Operand} {s1:St} {xs:List t.T} (hc:growing s d e ty cx x = some (s1,⟨t,xs⟩)) (hx:evalO s x = some ⟨.one,[cx]⟩) (hr:Rel E s a w g) :
  t.n = ty.n /\ s1.Ok /\ ∃ (q:Place) (us:List Value),RelF E (fun t=>s1.slots.lookup t) (fun m=>s1.boxes.lookup m) a w g /\ w.ownsRow 0 e t.n (a.eval x) xs.length us /\ DV w (ok E.base E.k0 g.perm) (.lst t xs) (a.eval x) /\
   (∀ b,(a.eval x).ownBlock = some b -> g.perm b = .row q (xs.length * t.n)) /\ (∀ t x,s1.slots.lookup t = some x -> ∀ (i:Nat) c,x.cs[i]? = some c -> (c.isOwn = true -> Place.slot t i ≠ q) /\ ∀ p,c.target = some p -> p ≠ q /\ ∀ m j,p = .box m j -> (s1.boxes.lookup m).isSome = true) /\
   (∀ m x,s1.boxes.lookup m = some x -> ∀ (i:Nat) c,x.2[i]? = some c -> c.isOwn = true -> Place.box m i ≠ q):=by
 have hX:=(hr.eval hx).one.2;have unk:∀ {l:List (Nat × SV)} {t x},Uniq l -> (delUnk s.boxes l).lookup t = some x -> l.lookup t = some x /\ ∀ c ∈ x.cs,c.aliUnk s.boxes = false:=fun hu hx=>by
  obtain ⟨h1,h2⟩:=lookup_filter hu hx;refine ⟨h1,fun c hc=>?_⟩
  simp only [Bool.not_eq_true',List.any_eq_false] at h2;simpa using h2 c hc
 have del:∀ tx,∀ t x,(delUnk s.boxes (delSlot tx s.slots)).lookup t = some x -> ∀ (i:Nat) c,x.cs[i]? = some c -> ∀ i0,(c.isOwn = true -> Place.slot t i ≠ .slot tx i0) /\ ∀ p,c.target = some p -> p ≠ .slot tx i0 /\ ∀ m j,p = .box m j -> (s.boxes.lookup m).isSome = true:=fun tx t x hx i c hc i0=>by
  obtain ⟨l1,l2⟩:=unk (hr.uniq.slots.filter _) hx;obtain ⟨l3,l4,l5⟩:=delSlot_look hr.uniq.slots l1;refine ⟨fun _ he=>l4 (by injection he),fun p hp=>⟨fun he=>?_,fun m j e=>?_⟩⟩
  ·exact refs_target (l5 c (List.mem_of_getElem? hc)) hp i0 he
  ·subst e;have:=l2 c (List.mem_of_getElem? hc);cases c <;> simp [Cell.target] at hp
   all_goals (subst hp; simp [Cell.aliUnk] at this; simpa [Option.isSome_iff_ne_none] using this)
 have weak:∀ tx,RelF E (fun t=>(delUnk s.boxes (delSlot tx s.slots)).lookup t) (fun m=>s.boxes.lookup m) a w g:=fun tx=>
  hr.toF.weak (fun t x hx=>(delSlot_look hr.uniq.slots (unk (hr.uniq.slots.filter _) hx).1).1) (fun _ _ h=>h)
 have uniq:∀ tx,Uniq (delUnk s.boxes (delSlot tx s.slots)):=fun tx=>(hr.uniq.slots.filter _).filter _
 unfold growing at hc;split at hc
 ·simp only [Option.some.injEq,Prod.mk.injEq,Sigma.mk.injEq] at hc;obtain ⟨rfl,rfl,hxs⟩:=hc;have hxs:=eq_of_heq hxs;subst hxs;have hnil:a.eval x = .slice none 0 0:=hX
  exact ⟨rfl,⟨uniq d,hr.uniq.boxes⟩,.slot d 0,[],weak d,by rw [hnil]; exact World.ownsRow_nil _ _ _ _,by rw [hnil]; exact .emp _ _ _ (by simp [maxLen]),fun b hb=>by rw [hnil] at hb; simp [Value.ownBlock] at hb,
   fun t x hx i c hc=>del d t x hx i c hc 0,fun m x _ i c _ _=>by simp⟩
 ·rename_i e' t' xs' tx;split at hc
  ·rename_i hcc;obtain ⟨rfl,htt,htx⟩:=hcc;simp only [Option.some.injEq,Prod.mk.injEq,Sigma.mk.injEq] at hc;obtain ⟨rfl,rfl,hxs⟩:=hc;have hxs:=eq_of_heq hxs;subst hxs;obtain ⟨⟨us,k1⟩,k3,k4⟩:=hX;exact ⟨htt,⟨uniq tx,hr.uniq.boxes⟩,.slot tx 0,us,weak tx,k1,k3,k4,fun t x hx i c hc=>del tx t x hx i c hc 0,fun m x _ i c _ _=>by simp⟩
  ·cases hc
 ·rename_i t0 i0 e' t' xs';split at hc
  ·rename_i hcc;obtain ⟨rfl,htt,ht0⟩:=hcc;simp only [Option.some.injEq,Prod.mk.injEq,Sigma.mk.injEq] at hc;obtain ⟨rfl,rfl,hxs⟩:=hc;have hxs:=eq_of_heq hxs;subst hxs;obtain ⟨k0,⟨us,k1⟩,k3,k4⟩:=hX;exact ⟨htt,⟨uniq t0,hr.uniq.boxes⟩,.slot t0 i0,us,weak t0,k1,k3,k4,fun t x hx i c hc=>del t0 t x hx i c hc i0,fun m x _ i c _ _=>by simp⟩
  ·cases hc
 ·rename_i n i0 e' t' xs';split at hc
  ·rename_i be cs hb;split at hc
   ·rename_i hcc;obtain ⟨rfl,htt⟩:=hcc;simp only [Option.some.injEq,Prod.mk.injEq,Sigma.mk.injEq] at hc;obtain ⟨rfl,rfl,hxs⟩:=hc;have hxs:=eq_of_heq hxs;subst hxs;obtain ⟨k0,⟨us,k1⟩,k3,k4⟩:=hX;have hbx:RelF E (fun t=>(delBoxRefs s.slots).lookup t) (fun m=>(setBox n (be,cs.set i0 (.lst t' xs')) s.boxes).lookup m) a w g:=by
     have h0:=hr.toF;refine { h0 with slots:=fun t x hx=>h0.slots t x (delBoxRefs_look hr.uniq.slots hx).1,boxes:=fun m e1 cs1 hm=>?_,nt:=fun m e1 cs1 hm=>?_ }
     ·rcases lookup_setBox hr.uniq.boxes hm with ⟨rfl,hq⟩ | ⟨_,hm'⟩
      ·simp only [Prod.mk.injEq] at hq;obtain ⟨rfl,rfl⟩:=hq;obtain ⟨us1,c2,c3,c4⟩:=hr.norm hb;refine ⟨(hr.boxes m _ cs (St.box?_eq hb).1).1,.mk (St.box?_eq hb).2 ⟨us1,c2,by simpa using c3,fun i x y hx hy=>?_⟩⟩
       rw [List.getElem?_set] at hx;split at hx
       ·rename_i hi;subst hi;split at hx
        ·injection hx with hx;subst hx;have hlt:=(List.getElem?_eq_some_iff.1 hy).1;have h1:=(c4 i0 _ y (List.getElem?_eq_getElem (by omega)) hy).1
         refine ⟨h1,?_⟩;have hcell:w.cell? ⟨g.ι m,i0,none⟩ = some y:=by simp [World.cell?,c2]; simpa using hy
         have hk0:w.cell? ⟨g.ι m,i0,none⟩ = some _:=k0;rw [hcell] at hk0;injection hk0 with hk0;rw [hk0];exact k3
        ·simp at hx
       ·exact c4 i x y hx hy
      ·exact h0.boxes m e1 cs1 hm'
     ·rcases lookup_setBox hr.uniq.boxes hm with ⟨rfl,hq⟩ | ⟨_,hm'⟩
      ·simp only [Prod.mk.injEq] at hq;obtain ⟨rfl,rfl⟩:=hq;intro c hc;rcases List.mem_or_eq_of_mem_set hc with h | h
       ·exact hr.nt m _ cs (St.box?_eq hb).1 c h
       ·rw [h]; rfl
      ·exact h0.nt m e1 cs1 hm'
    refine ⟨htt,⟨hr.uniq.slots.filter _,hr.uniq.boxes.setBox⟩,.box n i0,us,hbx,k1,k3,k4,fun t x hx i c hc=>?_,fun m x hm i c hc ho he=>?_⟩
    ·obtain ⟨l1,l2⟩:=delBoxRefs_look hr.uniq.slots hx;refine ⟨(fun _ he=>by cases he),fun p hp=>⟨fun he=>?_,fun m j e=>absurd rfl (noBox (f:=id) (X:=m) hp (l2 c (List.mem_of_getElem? hc)) m j e)⟩⟩
     subst he;have:=l2 c (List.mem_of_getElem? hc);cases c <;> simp [Cell.target] at hp
     all_goals (subst hp; simp [Cell.aliBox] at this)
    ·injection he with he1 he2;subst he1; subst he2;rcases lookup_setBox hr.uniq.boxes hm with ⟨_,hq⟩ | ⟨hne,_⟩
     ·subst hq;simp only at hc;rw [List.getElem?_set] at hc;simp at hc;obtain ⟨_,rfl⟩:=hc;simp [Cell.isOwn] at ho
     ·exact hne rfl
   ·cases hc
  ·cases hc
 ·cases hc
theorem F.appOk_P {n:Nat} {α β:Type} {l:List α} {m:List β} (h:F.appOk n l m = true):l.length + m.length <= maxLen /\ (l.length + m.length) * n <= 140737488355328:=by
 unfold F.appOk at h;rw [Bool.and_eq_true] at h;exact ⟨of_decide_eq_true h.1,of_decide_eq_true h.2⟩
theorem append_post {c:Call} (hop:o.op = .call c) (hcal:c.callee = .builtin .append) (hN:N = E.N) (hc:atail P N h s o = some (s',ob)) (hob:ob.P) (hr:Rel E s a w g):o.wpIn (Fr r) 9 P a w (Post E s') Q:=by
 unfold atail at hc;rw [hop] at hc;simp only [hcal] at hc;split at hc
 ·rename_i x y t t' d _ ha ht hd;split at hc
  ·rename_i hcond;obtain ⟨rfl,hdN⟩:=hcond;split at hc
   ·rename_i e hu;split at hc
    ·rename_i j ty cx cy hj hty hx hy;split at hc
     ·rename_i z hz;split at hc
      ·simp at hc
      ·rename_i hsz;have hsz0:j.size ≠ 0:=fun h=>hsz (.inl h)
       have hzs:z.cells.size = j.size:=by
        by_cases h:z.cells.size = j.size
        ·exact h
        ·exact absurd (.inr (.inl h)) hsz
       have hjt:j.size = ty.n:=by
        by_cases h:j.size = ty.n
        ·exact h
        ·exact absurd (.inr (.inr h)) hsz
       split at hc
       ·rename_i s1 t1 xs hgr;split at hc
        ·rename_i ys hys;simp only [Option.some.injEq,Prod.mk.injEq] at hc;obtain ⟨rfl,rfl⟩:=hc;obtain ⟨b1,b2⟩:=F.appOk_P hob;have hyD:=(hr.eval hy).one.2.listV hys;obtain ⟨g0,g1,q,us,g2,g3,g4,g5,g6,g7⟩:=growing_sound hgr hx hr;obtain ⟨v',w',hrun,g',hg⟩:=appended (ty:=o.type) (by rw [hjt,g0]) g2 hu hj hz hzs (by omega) g3 g4 g5 hyD b1 b2 (by rw [<- hN]; exact hdN) g6 g7
         refine wpIn_value (by rw [hop]; simp) (append_op_run hop hcal ha ht rfl rfl hrun) ?_
         rw [hd];exact ⟨g',RelF.toRel ⟨g1.slots.put _ _,g1.boxes⟩ (hg.weak (fun t x hx=>slots_put g1.slots hx) (fun m x h=>h))⟩
        ·simp at hc
       ·simp at hc
     ·simp at hc
    ·simp at hc
   ·simp at hc
  ·simp at hc
 ·rename_i hcc _ _ _;cases hcc
 ·rename_i hcc _ _;cases hcc
 ·simp at hc
theorem Rel.rewrite0I {q:Place} {c:Cell} (hr:Rel E s a w g) (hat:s.at? q = some c) {K:List Ty} (hs:s.rewriteI q c K = some s'):Rel E s' a w g:=by
 cases q with
 | slot t0 j0=>
  simp only [St.rewriteI] at hs;split at hs
  ·rename_i v hv;split at hs
   ·injection hs with hs;subst hs;simp only [St.at?,hv] at hat;have hset:v.cs.set j0 c = v.cs:=List.ext_getElem? fun i=>by
     rw [List.getElem?_set];split
     ·rename_i hi;subst hi;rw [if_pos (List.getElem?_eq_some_iff.1 hat).1,hat]
     ·rfl
    refine RelF.toRel ⟨(hr.uniq.slots.filter _).cons fun p hp=>?_,hr.uniq.boxes.filter _⟩ (hr.toF.weak (fun t1 x hx=>?_) (fun n q hq=>(lookup_filter hr.uniq.boxes hq).1))
    ·have:=(List.mem_filter.1 hp).2;simp at this;exact this.1
    ·simp only [List.lookup_cons] at hx;by_cases ht:t1 = t0
     ·subst ht;simp at hx;subst hx;rw [hset];exact hv
     ·have hb2:(t1 == t0) = false:=by simpa using ht
      simp only [hb2] at hx;exact (lookup_filter hr.uniq.slots hx).1
   ·cases hs
  ·cases hs
 | box n0 j0=>
  simp only [St.rewriteI] at hs;split at hs
  ·rename_i e0 cs0 hv;split at hs
   ·injection hs with hs;subst hs;simp only [St.at?,hv] at hat;have hset:cs0.set j0 c = cs0:=List.ext_getElem? fun i=>by
     rw [List.getElem?_set];split
     ·rename_i hi;subst hi;rw [if_pos (List.getElem?_eq_some_iff.1 hat).1,hat]
     ·rfl
    refine RelF.toRel ⟨hr.uniq.slots.filter _,(hr.uniq.boxes.filter _).cons fun p hp=>?_⟩ (hr.toF.weak (fun t1 x hx=>(lookup_filter hr.uniq.slots hx).1) (fun n q hq=>?_))
    ·have:=(List.mem_filter.1 hp).2;simp at this;exact this.1
    ·simp only [List.lookup_cons] at hq;by_cases ht:n = n0
     ·subst ht;simp at hq;subst hq;rw [hset];exact (St.box?_eq hv).1
     ·have hb2:(n == n0) = false:=by simpa using ht
      simp only [hb2] at hq;exact (lookup_filter hr.uniq.boxes hq).1
   ·cases hs
  ·cases hs
theorem copy_op_run {c:Call} {x y:Operand} {t t':TypeId} {u v v':Value} {w':World} (hop:o.op = .call c) (hc:c.callee = .builtin .copy) (ha:c.args.toList = [x,y]) (ht:c.argTypes.toList = [t,t']) (hx:a.eval x = u) (hy:a.eval y = v)
  (hrun:(Builtin.copy_ #[t,t'] o.type #[u,v]).run P w = .ok v' w'):(execOp a.eval o).run P w = .ok (.value v') w':=by
 have h1:c.args = #[x,y]:=by cases hh:c.args; simp_all
 have h2:c.argTypes = #[t,t']:=by cases hh:c.argTypes; simp_all
 simp only [execOp,hop,resolve,hc,h1,h2,Sem.run_bind,Sem.run_pure,Result.andThen_ok,invoke,builtin];simp [hx,hy,hrun]
theorem row_conc {x:Operand} {c:Cell} {q:Place} (hq:rowOf x c = some q) (hr:Rel E s a w g) (hx:evalO s x = some ⟨.one,[c]⟩):(ctx E g a w).conc q = some (a.eval x):=by
 have hv:=(hr.eval hx).one.2;have h1:=(hr.eval hx).one.1;unfold rowOf at hq;split at hq
 ·rename_i tx;injection hq with hq;subst hq;show (flat (tv g.dy.out a tx))[0]? = _;rw [tv_own (look_some hx).1,flat_one h1];rfl
 ·injection hq with hq;subst hq;exact hv.1
 ·cases hq
theorem Rel.rewrite0 {q:Place} {c:Cell} (hr:Rel E s a w g) (hat:s.at? q = some c) {K:List Ty} (hk:c.keeps q K = true) (hs:s.rewrite q c K = some s'):Rel E s' a w g:=
 (hr.dim q K).rewrite0I (dim_at hat hk) hs
theorem copied_row {t t' ty' e:TypeId} {j:TypeInfo} {q:Place} {e':Nat} {ty:Ty} {xs ys:List ty.T} {u v:Value} (hu:P.underlying t = some (.slice e)) (hj:P.info? e = some j) (hjt:j.size = ty.n) (hflat:ty.flat = true) (hr:Rel E s a w g)
  (hat:s.at? q = some (.own e' ty xs)) (hconc:(ctx E g a w).conc q = some u) (hv:DV w (ctx E g a w).k (.lst ty ys) v) (hrw:s.rewrite q (.own e' ty (F.over xs ys)) ty.kin = some s') :
  ∃ w' g',(Builtin.copy_ #[t,t'] ty' #[u,v]).run P w = .ok (.int .i64 (F.overN xs ys)) w' /\ Rel E s' a w' g':=by
 obtain ⟨u0,hu0,⟨usr,hrow⟩,hdv,hpm⟩:=hr.at_sound hat;rw [hconc] at hu0;injection hu0 with hu0;subst hu0;have none':∀ {d src:Option Addr} {n c m k:Nat},u = .slice d n c -> v = .slice src m k -> Nat.min m n = 0 -> F.over xs ys = xs -> F.overN xs ys = 0 -> ∃ w' g',(Builtin.copy_ #[t,t'] ty' #[u,v]).run P w = .ok (.int .i64 (F.overN xs ys)) w' /\ Rel E s' a w' g':=fun {d src n c m k} h1 h2 h3 h4 h5=>by
  rw [h4] at hrw;refine ⟨w,g,?_,hr.rewrite0 hat (flat_under hflat) hrw⟩;subst h1; subst h2;have hl0:=run_loadCells_list (P:=P) (w:=w);have hl:∀ ad:Addr,(loadCells ad 0).run P w = .ok #[] w:=fun ad=>by
   have:=hl0 ad [] (by simp)
   simpa using this
  rw [h5];cases d <;> cases src <;> simp [Builtin.copy_,run_underlying hu,Builtin.lenOf,h3,sizeOf,typeInfo,hj,Builtin.firstCells,hl,goInt,storeCells]
 cases hv with
 | emp t a0 cap0 hcap0=>
  have hov:F.over xs [] = xs:=by simp [F.over]
  have hN:F.overN xs ([]:List ty.T) = 0:=by simp [F.overN]
  rcases hrow.2 with ⟨hn,hx0⟩ | ⟨b,cap,cur,k1,_⟩
  ·exact none' hn rfl (by simp) hov hN
  ·exact none' k1 rfl (by simp) hov hN
 | lst t0 l0 b2 off2 cap2 u2 hc2 h12 hd2 hcap2 hm2=>
  rcases hrow.2 with ⟨hn,hx0⟩ | ⟨b,cap,cur,k1,_,k3,k4,k5,k6,k7⟩
  ·have hx0':xs = []:=List.eq_nil_of_length_eq_zero hx0;refine none' hn rfl (by simp) (by rw [hx0']; simp [F.over]) ?_
   rw [hx0'];simp only [F.overN,List.length_nil];split <;> omega
  ·have hheap:w.heap[b]? = some (.cells cur e' (0,0)):=k3
   let n:=Nat.min ys.length xs.length
   have hn1:n <= ys.length:=Nat.min_le_left _ _;have hn2:n <= xs.length:=Nat.min_le_right _ _
   let cs:List Value:=(List.range (n * ty.n)).map fun p=>(w.cell? ⟨b2,off2 + p,none⟩).getD undef
   have hcsl:cs.length = n * ty.n:=by simp [cs]
   have hsrc:∀ (i j:Nat) x d,i < n -> ys[i]? = some x -> (enc ty x)[j]? = some d -> ∃ y,cs[i * ty.n + j]? = some y /\ w.cell? ⟨b2,off2 + (i * ty.n + j),none⟩ = some y /\ y.oneCell' = true /\ DV w (ctx E g a w).k d y:=fun i j x d hi hx hd=>by
    have hjn:j < ty.n:=by have:=(List.getElem?_eq_some_iff.1 hd).1; rwa [enc_length] at this
    obtain ⟨c1,_⟩:=hc2 i j (by omega) hjn
    rw [Nat.add_assoc] at c1;refine ⟨u2 i j,?_,c1,h12 i j (by omega) hjn,hd2 i j x d hx hd⟩
    simp only [cs,List.getElem?_map];rw [List.getElem?_range (mul_get hi hjn),Option.map_some,c1];rfl
   have hcscell:∀ p y,cs[p]? = some y -> w.cell? ⟨b2,off2 + p,none⟩ = some y /\ y.oneCell' = true:=fun p y hy=>by
    have hp:p < n * ty.n:=by have:=(List.getElem?_eq_some_iff.1 hy).1; rwa [hcsl] at this
    have hn:0 < ty.n:=by
     rcases Nat.eq_zero_or_pos ty.n with hz | hz
     ·rw [hz] at hp; omega
     ·exact hz
    have hdm:p = p / ty.n * ty.n + p % ty.n:=by rw [Nat.mul_comm]; exact (Nat.div_add_mod _ _).symm
    have hi:p / ty.n < n:=by rw [Nat.div_lt_iff_lt_mul hn]; exact hp
    have hjn:p % ty.n < ty.n:=Nat.mod_lt _ hn;obtain ⟨z,z1,z2,z3,_⟩:=hsrc (p / ty.n) (p % ty.n) _ _ hi (List.getElem?_eq_getElem (by omega)) (List.getElem?_eq_getElem (by rw [enc_length]; exact hjn))
    rw [<- hdm] at z1 z2;rw [hy] at z1;injection z1 with z1;subst z1;exact ⟨z2,z3⟩
   have hnx:n * ty.n <= xs.length * ty.n:=Nat.mul_le_mul_right _ hn2;have hxc:xs.length * ty.n <= cur.size:=by rw [k6]; exact Nat.mul_le_mul_right _ k4
   have hct:cur.toList.length = cur.size:=Array.length_toList
   have hload:=run_loadCells_list (P:=P) (w:=w) ⟨b2,off2,none⟩ cs (fun p y hy=>by
    have hadd:(⟨b2,off2,none⟩:Addr).add p = ⟨b2,off2 + p,none⟩:=by unfold Addr.add; split <;> simp_all
    rw [hadd]
    exact (hcscell p y hy).1)
   have hst:=run_storeCells_at P b 0 e' cs 0 cur w hheap (by omega) (fun y hy=>by
    obtain ⟨p,hp⟩:=List.mem_iff_getElem?.1 hy
    exact (hcscell p y hp).2)
   simp only [Nat.zero_add,List.take_zero,List.nil_append] at hst;have hNv:(n:Int) = F.overN xs ys:=by
    simp only [F.overN];show ((Nat.min ys.length xs.length:Nat):Int) = _;by_cases hc:(ys.length:Int) <= (xs.length:Int)
    ·rw [if_pos hc,show Nat.min ys.length xs.length = ys.length from Nat.min_eq_left (by omega)]
    ·rw [if_neg hc,show Nat.min ys.length xs.length = xs.length from Nat.min_eq_right (by omega)]
   refine ⟨_,g,?_,hr.rewrite (cur:=cur) (cur':=(cs ++ cur.toList.drop cs.length).toArray) hat (by rw [hconc,k1]) hheap (flat_under hflat) ?_ ?_ (fun p v hp hv=>.inr ?_) (fun i j x d hx hd=>?_) hrw⟩
   ·subst k1;simp [Builtin.copy_,run_underlying hu,Builtin.lenOf,sizeOf,typeInfo,hj,Builtin.firstCells,hjt,show Nat.min ys.length xs.length = n from rfl,<- hcsl,hload,hst,goInt,hNv]
   ·simp only [F.over,List.length_append,List.length_take,List.length_drop]; omega
   ·rw [List.size_toArray,List.length_append,List.length_drop]; omega
   ·exact flat_kin hflat (by rw [<- k1]; exact hdv) hheap hp hv
   ·have hjn:j < ty.n:=by have:=(List.getElem?_eq_some_iff.1 hd).1; rwa [enc_length] at this
    have hil:i < xs.length:=by
     have:=(List.getElem?_eq_some_iff.1 hx).1;simp only [F.over,List.length_append,List.length_take,List.length_drop] at this;omega
    rw [List.getElem?_toArray];by_cases hin:i < n
    ·have hxy:ys[i]? = some x:=by
      simp only [F.over] at hx;rw [List.getElem?_append_left (by rw [List.length_take]; omega),List.getElem?_take,if_pos hil] at hx
      exact hx
     obtain ⟨y,y1,_,y3,y4⟩:=hsrc i j x d hin hxy hd;have hlt:i * ty.n + j < n * ty.n:=mul_get hin hjn;exact ⟨y,by rw [List.getElem?_append_left (by omega)]; exact y1,y3,y4⟩
    ·have hny:n = ys.length:=by
      rcases Nat.le_total ys.length xs.length with h | h
      ·exact Nat.min_eq_left h
      ·have h2:n = xs.length:=Nat.min_eq_right h;exact absurd hil (by rw [<- h2]; exact hin)
     have hxx:xs[i]? = some x:=by
      simp only [F.over] at hx;rw [List.getElem?_append_right (by rw [List.length_take]; omega),List.getElem?_drop,List.length_take] at hx
      rw [<- hx]
      congr 1
      omega
     obtain ⟨b',off',cap'',e4,hdp⟩:=DV.elem (base:=E.base) (lent:=E.lent) hdv hxx;rw [k1] at e4;injection e4 with e4 e5 e6;injection e4 with e4;injection e4 with e4 e7;subst e4; subst e7;obtain ⟨y,y1,y2,y3,y4⟩:=hdp j d hd;have y1:w.cell? ⟨b,0 + i * ty.n + j,none⟩ = some y:=y1;rw [Nat.zero_add] at y1;have hcur:cur[i * ty.n + j]? = some y:=by simpa [World.cell?,hheap] using y1
     have hge:n * ty.n <= i * ty.n:=Nat.mul_le_mul_right _ (by omega)
     refine ⟨y,?_,y3,y4⟩;rw [List.getElem?_append_right (by omega),List.getElem?_drop,show cs.length + (i * ty.n + j - cs.length) = i * ty.n + j by omega,Array.getElem?_toList]
     exact hcur
theorem clear_post {c:Call} (hop:o.op = .call c) (hcal:c.callee = .builtin .clear) (hc:atail P N h s o = some (s',ob)) (hr:Rel E s a w g):o.wpIn (Fr r) 9 P a w (Post E s') Q:=by
 unfold atail at hc;rw [hop] at hc;simp only [hcal] at hc;split at hc
 ·rename_i hcc _ _ _;cases hcc
 ·rename_i x t _ ha ht hd;split at hc
  ·rename_i kt vt hx hu;simp only [Option.some.injEq,Prod.mk.injEq] at hc;obtain ⟨rfl,_⟩:=hc;obtain ⟨b,e1,hb⟩:=(hr.eval hx).one.2;refine wpIn_value (by rw [hop]; simp) (clear_run hop hcal ha ht e1 hb hu) ?_
   rw [hd];exact ⟨g,hr⟩
  ·cases hc
 ·rename_i hcc _ _;cases hcc
 ·cases hc
theorem copy_post {c:Call} (hop:o.op = .call c) (hcal:c.callee = .builtin .copy) (hN:N = E.N) (hc:atail P N h s o = some (s',ob)) (hr:Rel E s a w g):o.wpIn (Fr r) 9 P a w (Post E s') Q:=by
 unfold atail at hc;rw [hop] at hc;simp only [hcal] at hc;split at hc
 ·rename_i hcc _ _ _;cases hcc
 ·rename_i hcc _ _ _;cases hcc
 ·rename_i x y t t' hcc ha ht;split at hc
  ·rename_i e hu;split at hc
   ·rename_i j ty cx cy hj hty hx hy;split at hc
    ·rename_i q hq;split at hc
     ·rename_i c0 hat;split at hc
      ·rename_i e' xs ys hown hys;split at hc
       ·rename_i hcond;split at hc
        ·rename_i s1 hrw;have hcc0:=ownOf_some hown;subst hcc0;obtain ⟨w',g',hrun,hg⟩:=copied_row (t':=t') (ty':=o.type) hu hj hcond.2 hcond.1 hr hat (row_conc hq hr hx) ((hr.eval hy).one.2.listV hys) hrw;refine wpIn_value (by rw [hop]; simp) (copy_op_run hop hcal ha ht rfl rfl hrun) ?_
         split at hc
         ·rename_i d hd;split at hc
          ·rename_i hdN;simp only [Option.some.injEq,Prod.mk.injEq] at hc;obtain ⟨rfl,_⟩:=hc;rw [hd];have h4:=hg.toF.put (d:=d) (x:=one (.v (.int .i64 (F.overN xs ys)))) (u:=.int .i64 (F.overN xs ys)) (by rw [<- hN]; exact hdN) (SVR.of_one rfl rfl) rfl
           exact ⟨g',RelF.toRel ⟨hg.uniq.slots.put _ _,hg.uniq.boxes⟩ (h4.weak (fun t x hx=>slots_put hg.uniq.slots hx) (fun m x h=>h))⟩
          ·cases hc
         ·rename_i hd;simp only [Option.some.injEq,Prod.mk.injEq] at hc;obtain ⟨rfl,_⟩:=hc;rw [hd];exact ⟨g',hg⟩
        ·cases hc
       ·cases hc
      ·cases hc
     ·cases hc
    ·cases hc
   ·cases hc
  ·cases hc
 ·simp at hc
end
end Go.Proofs.YthnagpmnoncijaaGreat.M
