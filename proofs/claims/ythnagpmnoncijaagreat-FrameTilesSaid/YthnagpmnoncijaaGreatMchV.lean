/- A part of the proof. -/
import Derived.Test.YthnagpmnoncijaaGreatMchUb
set_option linter.unusedVariables false
namespace Go.Proofs.YthnagpmnoncijaaGreat.M
open Go Go.RowKit
section
variable {ρ:Type} {P:Program} {E:Env} {s s':St} {a:Act} {w:World} {g:Gh} {o:Oper} {N:Nat} {ops:Array Oper} {r:Option Nat} {T:List Ent}
theorem arunC_hint {h1 h2:List (Nat × Hint)} {tl:List Nat}:∀ (l:List Oper) (i':Nat) (s:St),(∀ j,i' <= j -> h1.lookup j = h2.lookup j) -> arunC P N ops h1 tl i' l s = arunC P N ops h2 tl i' l s
 | [],i',s,_=>rfl
 | o :: l,i',s,h=>by
  have ih:∀ s1,arunC P N ops h1 tl (i' + 1) l s1 = arunC P N ops h2 tl (i' + 1) l s1:=fun s1=>arunC_hint l (i' + 1) s1 (fun j h3=>h j (by omega))
  simp only [arunC,h i' (Nat.le_refl _),ih]
theorem lookup_none {α:Type} {l:List (Nat × α)} {j:Nat} (h:∀ q ∈ l,q.1 ≠ j):l.lookup j = none:=by
 induction l with
 | nil=>rfl
 | cons q l ih=>
  obtain ⟨k,x⟩:=q;have:(j == k) = false:=by
   have:=h (k,x) (by simp)
   simpa using fun e=>this e.symm
  simp only [List.lookup_cons,this];exact ih fun q hq=>h q (by simp [hq])
theorem lookup_ahead {hs:List (Nat × Hint)} {i:Nat} {h:Option Hint} (hk:∀ q ∈ hs,i + 1 <= q.1):∃ hs':List (Nat × Hint),(∀ q ∈ hs',i <= q.1) /\ hs'.lookup i = h /\ (∀ j,i + 1 <= j -> hs'.lookup j = hs.lookup j) /\ (∀ q ∈ hs',q.1 = i \/ q ∈ hs):=by
 cases h with
 | none=>exact ⟨hs,fun q hq=>by have:=hk q hq; omega,lookup_none fun q hq=>by have:=hk q hq; omega,fun _ _=>rfl,fun q hq=>.inr hq⟩
 | some h=>
  refine ⟨(i,h) :: hs,fun q hq=>?_,by simp,fun j hj=>?_,fun q hq=>?_⟩
  ·rcases List.mem_cons.1 hq with rfl | hq
   ·exact Nat.le_refl _
   ·have:=hk q hq; omega
  ·have:(j == i) = false:=by simp; omega
   simp [List.lookup_cons,this]
  ·rcases List.mem_cons.1 hq with rfl | hq
   ·exact .inl rfl
   ·exact .inr hq
theorem shareHead_eq (s:St) (K:St -> Option ρ):shareHead s K = K s:=by
 unfold shareHead;split
 ·rfl
 ·rename_i d v rr h;rw [share_eq];obtain ⟨sl,bx⟩:=s;simp only at h;subst h;rfl
def Back (E:Env) (a:Act) (K:SV -> St -> Option ρ) (y:ρ) (e:Ending) (w':World):Prop:=
 ∃ u v s' g',e = .returned u /\ K v s' = some y /\ Rel E s' a w' g' /\ (∃ pl,SVR (ctx E g' a w') pl v u) /\ v.cs.any Cell.isOwn = false
def Handed (E:Env) (g:Gh) (a:Act) (w:World) (args:List SV) (vs:List Value):Prop:=
 vs.length = args.length /\ ∀ (i:Nat) x v,args[i]? = some x -> vs[i]? = some v -> (∃ pl,SVR (ctx E g a w) pl x v) /\ x.cs.any Cell.isOwn = false
def InlOk (P:Program) (fn:Nat) (f:Way ρ):Prop:=
 (∀ args w,(callFunc fn args).run P w = .ok (.enter fn args) w) /\
 ∀ (E:Env) (s:St) (args:List SV) (K:SV -> St -> Option ρ) (y:ρ),E.Lp P -> f s args K = some y -> ∀ (rd:Option Nat) (a:Act) (w:World) (g:Gh) (vs:List Value),Rel E s a w g ->
  (∀ x,E.lps lim = some x -> ∀ t,t < lim -> a.tmps.getD t undef = x.rc.tmps.getD t undef) -> Handed E g a w args vs -> CallsIn (Fr rd) 9 P fn vs.toArray w (Back E a K y)
def YlOk (P:Program) (n fn p:Nat) (f:Way ρ):Prop:=
 ∀ (E:Env) (s:St) (args:List SV) (K:SV -> St -> Option ρ) (y:ρ),E.Lp P -> E.lps lim = none -> f s args K = some y -> ∀ (rd:Option Nat) (a:Act) (w:World) (g:Gh) (vs:List Value) (x:LpI),Rel E s a w g ->
  E.lps n = some x -> x.fn = fn -> x.p = p -> Handed E g a w args vs -> vs.length = x.rc.params.size /\
  RoundIn (Fr rd) 9 P x.l x.rc.fn ((x.rc.params.zip vs.toArray).foldl (fun tm (q:Nat × Value)=>tm.setIfInBounds q.1 q.2) x.rc.tmps) x.rc.assign x.rc.body w (Back E a K y)
structure InlsOk (P:Program) (I:Inl ρ):Prop where
 fn:∀ d fn f,I.fn d fn = some f -> InlOk P fn f
 yl:∀ n fn p f,I.yl n fn p = some f -> YlOk P n fn p f
 nw:∀ q ∈ I.nw,NEnt.Ok P q
structure Env.Ok (P:Program) (E:Env):Prop where
 lp:E.Lp P
 rd:E.Rd
 no:E.lps lim = none
theorem evalIn_sound (hr:Rel E s a w g):∀ {l:List Operand} {args:List SV},evalIn s l = some args -> (l.map a.eval).length = args.length /\ ∀ (i:Nat) x v,args[i]? = some x -> (l.map a.eval)[i]? = some v -> (∃ pl,SVR (ctx E g a w) pl x v) /\ x.cs.any Cell.isOwn = false
 | [],args,h=>by simp [evalIn] at h; subst h; simp
 | z :: l,args,h=>by
  simp only [evalIn] at h;split at h
  ·rename_i v l' hz h2;injection h with h;subst h;obtain ⟨l1,l2⟩:=evalIn_sound hr h2;refine ⟨by simpa using l1,fun i x y hx hy=>?_⟩
   cases i with
   | zero=>
    simp at hx hy;subst hx; subst hy;exact ⟨⟨_,SVR.copy (pl:=plOf z) (pl':=fun _=>.slot 0 0) (pl2:=fun _=>.slot 0 0) (by cases v; exact hr.eval hz) fun h=>by cases h⟩,copyCells_notOwn _ _⟩
   | succ i=>exact l2 i x y (by simpa using hx) (by simpa using hy)
  ·cases h
theorem takeIn_sound (hN:N = E.N) {K:St -> Option ρ} {y:ρ} {e:Ending} {w':World} (h:Back E a (takeIn N o K) y e w') {K':Act -> World -> Prop} (hK:∀ s' a' w' g',K s' = some y -> Rel E s' a' w' g' -> K' a' w'):∃ u,e = .returned u /\ K' (a.put o.dst u) w':=by
 obtain ⟨u,v,s',g',rfl,hk,hr',⟨pl,hv⟩,hno⟩:=h;unfold takeIn at hk;split at hk
 ·rename_i d hd;split at hk
  ·rename_i hdN;split at hk
   ·cases hk
   ·rename_i hvr;refine ⟨u,rfl,?_⟩;rw [hd];obtain ⟨g2,hr2⟩:=(RelF.toRel (hr'.uniq.app d v none) ((appF_put hr'.toF (by rw [<- hN]; exact hdN) (hv.place hno) hvr).weak (fun t x hx=>app_slots hr'.uniq hx) (fun n q hq=>app_boxes hr'.uniq hq))).pull d
    exact hK _ _ _ _ hk hr2
  ·cases hk
 ·cases hk
theorem Handed.append {as caps:List SV} {us vs:List Value} (h1:Handed E g a w as us) (h2:Handed E g a w caps vs):Handed E g a w (as ++ caps) (us ++ vs):=by
 refine ⟨by simp [h1.1,h2.1],fun i x v hx hv=>?_⟩
 by_cases hi:i < as.length
 ·rw [List.getElem?_append_left hi] at hx;rw [List.getElem?_append_left (by rw [h1.1]; exact hi)] at hv
  exact h1.2 i x v hx hv
 ·rw [List.getElem?_append_right (by omega)] at hx
  rw [List.getElem?_append_right (by rw [h1.1]; omega),h1.1] at hv
  exact h2.2 _ x v hx hv
theorem handed_clo {caps:List (Nat × Nat)}:Handed E g a w (caps.map fun q=>one (.ptr q.1 q.2)) (caps.map fun q=>Value.pointer (some ⟨g.ι q.1,q.2,none⟩)):=by
 refine ⟨by simp,fun i x v hx hv=>?_⟩
 rw [List.getElem?_map] at hx hv;cases hq:caps[i]? with
 | none=>rw [hq] at hx; cases hx
 | some q=>
  rw [hq] at hx hv;injection hx with hx; injection hv with hv
  subst hx; subst hv;exact ⟨⟨fun _=>.slot 0 0,SVR.of_one rfl rfl⟩,rfl⟩
theorem handed_dclo {fn:Nat} {dss:List (List D)} {pl:Place} {u:Value} (h:CV (ctx E g a w) pl (.dclo fn dss) u):∃ us:List Value,u = .func (.func fn) #[] us.toArray /\ Handed E g a w (dss.map fun ds=>one (.dp ds)) us:=by
 obtain ⟨as,e,hl,hd⟩:=h;refine ⟨_,e,by simp [hl],fun i x v hx hv=>?_⟩
 rw [List.getElem?_map] at hx hv;cases hq:as[i]? with
 | none=>rw [hq] at hv; cases hv
 | some q=>
  rw [hq] at hv;injection hv with hv;cases hs:dss[i]? with
  | none=>rw [hs] at hx; cases hx
  | some ds=>
   rw [hs] at hx;injection hx with hx;subst hx; subst hv;exact ⟨⟨fun _=>.slot 0 0,SVR.of_one rfl ⟨q.1,q.2,rfl,(hd i q ds hq hs).mono (fun b i v k1 k2=>⟨k2,.inr k1⟩) (fun b i v k1 k2=>⟨k2,k1⟩)⟩⟩,rfl⟩
theorem inl_fn {f:Way ρ} (hE:E.Ok P) (hN:N = E.N) {fn:Nat} (hf:InlOk P fn f) {c:Call} {fo:Operand} {as caps:List SV} {us:List Value} {K:St -> Option ρ} {y:ρ} (hop:o.op = .call c) (hcal:c.callee = .value fo) (hfv:a.eval fo = .func (.func fn) #[] us.toArray) (hc:Handed E g a w caps us)
  (hargs:evalIn s c.args.toList = some as) (h2:f s (as ++ caps) (takeIn N o K) = some y) (hr:Rel E s a w g) {K':Act -> World -> Prop} {Q:Exit -> Act -> World -> Prop} (hK:∀ s' a' w' g',K s' = some y -> Rel E s' a' w' g' -> K' a' w'):o.wpIn (Fr r) 9 P a w K' Q:=by
 obtain ⟨hent,hok⟩:=hf;have hrun:(execOp a.eval o).run P w = .ok (.enter fn (c.args.toList.map a.eval ++ us).toArray) w:=by
  simp only [execOp,hop,resolve,hcal,hfv,Sem.run_bind,Deferred.ofValue,Sem.run_pure,Result.andThen_ok,invoke];have he:(c.args.map a.eval ++ us.toArray:Array Value) = (c.args.toList.map a.eval ++ us).toArray:=by apply Array.toList_inj.1; simp
  have:=hent (c.args.toList.map a.eval ++ us).toArray w;rw [<- he] at this ⊢;simpa using this
 refine wpIn_enter (by rw [hop]; simp) hrun ?_
 exact (hok E s _ _ y hE.lp h2 r a w g _ hr (fun x hx=>by rw [hE.no] at hx; cases hx) (Handed.append (evalIn_sound hr hargs) hc)).mono fun e w' he=>takeIn_sound hN he hK
theorem wpIn_round {l:Nat} {f:FuncId} {tmps:Array Value} {assign body:Code} {K:Act -> World -> Prop} {Q:Exit -> Act -> World -> Prop} {w':World} (hnd:∀ c,o.op ≠ .defer c) (hrun:(execOp a.eval o).run P w = .ok (.round l f tmps assign body) w')
  (hk:RoundIn (Fr r) 9 P l f tmps assign body w' fun e w''=>∃ u,e = .returned u /\ K (a.put o.dst u) w''):o.wpIn (Fr r) 9 P a w K Q:=by
 refine ⟨fun _ _=>trivial,?_⟩
 have hs:o.semAt (Fr r).round a.eval = execOp a.eval o:=Oper.semAt_eq _ _ _ hnd;rw [hs,hrun];refine ⟨fun h=>by simp [Fr] at h,?_⟩
 have h2:RoundIn (Fr r) (9 - 1) P l f tmps assign body w' fun e w''=>∃ u,e = .returned u /\ K (a.put o.dst u) w'':=⟨hk.1,fun c cs _=>hk.2 c cs (fun d hd=>by simp [Fr] at hd)⟩
 refine h2.mono fun e w'' he=>?_
 obtain ⟨u,rfl,hk⟩:=he;exact hk
theorem loopAt_some {n fn p:Nat} (h:s.loopAt n = some (fn,p)):∃ c0 c1 c2 k k1 k2 z1 z2,n % sh = lim /\ s.slots.lookup n = some ⟨.agg,[c0,c1,c2]⟩ /\ c0.val? = some (true,.int k 0) /\ c1.val? = some (true,.int k1 z1) /\ c2.val? = some (true,.int k2 z2) /\ fn = z1.toNat /\ p = z2.toNat:=by
 unfold St.loopAt at h;split at h
 ·rename_i c0 c1 c2 hb hs;split at h
  ·rename_i k z k1 z1 k2 z2 h0 h1 h2;split at h
   ·rename_i hz;simp only [Option.some.injEq,Prod.mk.injEq] at h;rw [hz] at h0;exact ⟨c0,c1,c2,k,k1,k2,z1,z2,Nat.eq_of_beq_eq_true hb,hs,h0,h1,h2,h.1.symm,h.2.symm⟩
   ·cases h
  ·cases h
 ·cases h
theorem loopAt_sound (hE:E.Lp P) (hr:Rel E s a w g) {n fn p:Nat} (h:s.loopAt n = some (fn,p)):n % sh = lim /\ ∃ x,E.lps n = some x /\ x.fn = fn /\ x.p = p /\ g.dy.out n = lpV x 0 /\ g.dy.ko x.l = some (.loop (recAt x.rc 0)):=by
 obtain ⟨c0,c1,c2,k,k1,k2,z1,z2,hn,hs,h0,h1,h2,rfl,rfl⟩:=loopAt_some h;refine ⟨hn,?_⟩;obtain ⟨x,e1,e2,e3⟩:=hr.lpCode hE hn hs h0;refine ⟨x,e1,?_,?_,e2,e3⟩
 all_goals
  obtain ⟨us,u1,u2,u3,u4⟩:=hr.slots n _ hs;have hle:lim <= n:=mod_le (by rw [hn]; exact Nat.le_refl _)
  rw [tv_out hle,e2] at u2;have hu:us = [.int .i64 0,.int .i64 (x.fn:Int),.int .i64 (x.p:Int)]:=by rw [<- u2]; rfl
 ·have h3:=(u4 1 c1 (.int .i64 (x.fn:Int)) rfl (by rw [hu]; rfl)).2
  cases c1 <;> simp [Cell.val?] at h1
  all_goals
   rw [h1] at h3;have h3:Value.int .i64 (x.fn:Int) = .int k1 z1:=h3;injection h3 with _ h3;omega
 ·have h3:=(u4 2 c2 (.int .i64 (x.p:Int)) rfl (by rw [hu]; rfl)).2
  cases c2 <;> simp [Cell.val?] at h2
  all_goals
   rw [h2] at h3;have h3:Value.int .i64 (x.p:Int) = .int k2 z2:=h3;injection h3 with _ h3;omega
theorem inl_step {I:Inl ρ} (hI:InlsOk P I) (hE:E.Ok P) (hN:N = E.N) {f:Way ρ} {args:List SV} {K:St -> Option ρ} {y:ρ} (h1:inlOf I s o = some (f,args)) (h2:f s args (takeIn N o K) = some y) (hr:Rel E s a w g) {K':Act -> World -> Prop} {Q:Exit -> Act -> World -> Prop}
  (hK:∀ s' a' w' g',K s' = some y -> Rel E s' a' w' g' -> K' a' w'):o.wpIn (Fr r) 9 P a w K' Q:=by
 have goes:∀ {f':Option (Way ρ)} {as:Option (List SV)} {caps:List SV},goTo f' as caps = some (f,args) -> ∃ l,f' = some f /\ as = some l /\ args = l ++ caps:=fun {f' as caps} h=>by
  unfold goTo at h;split at h
  ·simp only [Option.some.injEq,Prod.mk.injEq] at h;exact ⟨_,by rw [h.1],rfl,h.2.symm⟩
  ·cases h
 unfold inlOf at h1;split at h1
 ·rename_i c hop;split at h1
  ·rename_i fo hcal;split at h1
   ·rename_i fn caps hf;obtain ⟨as,hIf,hargs,rfl⟩:=goes h1;exact inl_fn hE hN (hI.fn _ _ _ hIf) hop hcal (hr.eval hf).one.2 handed_clo hargs h2 hr hK
   ·rename_i fn dss hf;obtain ⟨as,hIf,hargs,rfl⟩:=goes h1;obtain ⟨us,hfv,hc⟩:=handed_dclo (hr.eval hf).one.2;exact inl_fn hE hN (hI.fn _ _ _ hIf) hop hcal hfv hc hargs h2 hr hK
   ·rename_i n hf;split at h1
    ·rename_i fn p hla;obtain ⟨as,hIf,hargs,rfl⟩:=goes h1;rw [List.append_nil] at h2;have hfv:a.eval fo = .func (.yield (g.ι n)) #[] #[]:=(hr.eval hf).one.2;obtain ⟨hn,x,e1,e2,e3,e4,e5⟩:=loopAt_sound hE.lp hr hla;obtain ⟨k1,k2⟩:=hr.ko _ _ e5;have hl:g.ι n = x.l:=by
      rw [hr.li n (by rw [hn]; exact Nat.le_refl _)]
      exact (hE.lp.lp n x e1).2.1
     obtain ⟨hsz,hround⟩:=hI.yl _ _ _ _ hIf E s as _ y hE.lp hE.no h2 r a w g _ x hr e1 e2 e3 (evalIn_sound hr hargs);have hrun:(execOp a.eval o).run P w = .ok (.round x.l x.rc.fn ((x.rc.params.zip (c.args.toList.map a.eval).toArray).foldl (fun tm (q:Nat × Value)=>tm.setIfInBounds q.1 q.2) x.rc.tmps) x.rc.assign x.rc.body) w:=by
      simp only [execOp,hop,resolve,hcal,hfv,Sem.run_bind,Deferred.ofValue,Sem.run_pure,Result.andThen_ok,invoke];have he:(#[] ++ c.args.map a.eval:Array Value) = (c.args.toList.map a.eval).toArray:=by apply Array.toList_inj.1; simp
      rw [he,hl];have hy:=run_yield (P:=P) (args:=(c.args.toList.map a.eval).toArray) k1 (by show _ = x.rc.params.size; rw [<- hsz]; simp)
      exact hy
     exact wpIn_round (by rw [hop]; simp) hrun (hround.mono fun e w' he=>takeIn_sound hN he hK)
    ·cases h1
   ·cases h1
  ·cases h1
 ·cases h1
theorem either_some {β:Type} {x y:Option β} {z:β} (h:either x y = some z):x = some z /\ y = some z:=by
 unfold either at h;split at h
 ·rename_i e;exact ⟨h,by rw [<- e]; exact h⟩
 ·cases h
theorem nilE_some {β:Type} {n:Int} {x y:Option β} {z:β} (h:nilE n x y = some z):(n = 0 -> x = some z) /\ y = some z:=by
 unfold nilE at h;split at h
 ·exact ⟨fun _=>(either_some h).1,(either_some h).2⟩
 ·rename_i hn;exact ⟨fun e=>absurd e hn,h⟩
theorem DV.nilL {w:World} {k:Nat -> Nat -> Prop} {t:Ty} {l:List t.T} {u:Value} (h:DV w k (.lst t l) u):∃ a cap,u = .slice a l.length cap /\ (a = none -> F.len l = 0):=by
 cases h with
 | emp t a cap hm=>exact ⟨_,_,rfl,fun _=>rfl⟩
 | lst t l b off cap x hc h1 hd hcap hm=>exact ⟨_,_,rfl,fun e=>by cases e⟩
theorem count_slice {c:Ctx} {p:Place} {x:Cell} {u:Value} {n:Int} (h:CV c p x u) (hx:x.count = some (false,n)):∃ a l cap,u = .slice a l cap /\ (a = none -> n = 0):=by
 cases x <;> simp [Cell.count] at hx
 case lst=>obtain ⟨a,cap,e,k⟩:=DV.nilL h; exact ⟨_,_,_,e,fun h=>by rw [<- hx]; exact k h⟩
 case own=>obtain ⟨a,cap,e,k⟩:=DV.nilL h.2.1; exact ⟨_,_,_,e,fun h=>by rw [<- hx]; exact k h⟩
 case ali=>obtain ⟨a,cap,e,k⟩:=DV.nilL h.2.2.1; exact ⟨_,_,_,e,fun h=>by rw [<- hx]; exact k h⟩
theorem nil_step {d:Nat} {b:Bool} {n:Int} (h:nilTest P s o = some (d,b,n)) (hd:d < E.N) (hr:Rel E s a w g) {K:Act -> World -> Prop} {Q:Exit -> Act -> World -> Prop} (h1:n = 0 -> ∀ {a'},(∃ g',Rel E (s.app d (one (.c (.bool b))) none) a' w g') -> K a' w) (h2:∀ {a'},(∃ g',Rel E (s.app d (one (.c (.bool (!b)))) none) a' w g') -> K a' w):o.wpIn (Fr r) 9 P a w K Q:=by
 unfold nilTest at h;split at h
 ·rename_i op t x y yt d' hop hd';split at h
  ·rename_i c e hx hy hu;split at h
   ·rename_i m hc;obtain ⟨ad,l,cap,e1,hn⟩:=count_slice (hr.eval hx).one.2 hc;have e2:a.eval y = .slice none 0 0:=(hr.eval hy).one.2;have put:∀ bb,Rel E (s.app d' (one (.c (.bool bb))) none) (a.put o.dst (.bool bb)) w g:=fun bb=>by
     rw [hd'];have hdd:d' < E.N:=by
      split at h <;> first | (simp only [Option.some.injEq,Prod.mk.injEq] at h; rw [h.1]; exact hd) | cases h
     exact RelF.toRel (hr.uniq.app d' _ none) ((appF_put (v:=one (.c (.bool bb))) (u:=.bool bb) hr.toF hdd (SVR.of_one rfl rfl) rfl).weak (fun t x hx=>app_slots hr.uniq hx) (fun n q hq=>app_boxes hr.uniq hq))
    split at h
    ·simp only [Option.some.injEq,Prod.mk.injEq] at h;obtain ⟨rfl,rfl,rfl⟩:=h;refine wpIn_value (by rw [hop]; simp) (binOp_run hop e1 e2 rfl (by simp) (eql_run rfl (equalIn_nilS hu))) ?_
     cases ad with
     | none=>exact h1 (hn rfl) ⟨g,put true⟩
     | some ad=>exact h2 ⟨g,put false⟩
    ·simp only [Option.some.injEq,Prod.mk.injEq] at h;obtain ⟨rfl,rfl,rfl⟩:=h;refine wpIn_value (by rw [hop]; simp) (binOp_run hop e1 e2 rfl (by simp) (neq_run rfl (equalIn_nilS hu))) ?_
     cases ad with
     | none=>exact h1 (hn rfl) ⟨g,put false⟩
     | some ad=>exact h2 ⟨g,put true⟩
    ·cases h
   ·cases h
  ·cases h
 ·cases h
theorem goes_pre {I:Inl ρ} {Kp:St -> Prop} {l:List Oper} (h:Goes P r E ops Kp (o :: l) (preT I s o)):Goes P r E ops Kp (o :: l) s:=fun a w g K Q hr hK=>by
 have:∃ g',Rel E (preT I s o) a w g':=by
  unfold preT;split
  ·split
   ·exact hr.pull _
   ·exact ⟨g,hr⟩
  ·exact ⟨g,hr⟩
 obtain ⟨g',hr'⟩:=this;exact h a w g' K Q hr' hK
theorem evT_sound {I:Inl ρ} (hT:∀ e ∈ T,Ent.Ok P e) (hI:InlsOk P I) (hE:E.Ok P) (hN:N = E.N) {K:St -> Option ρ} {y:ρ}:∀ (l:List Oper) (s:St),evT T P N I ops l s K = some y -> Goes P r E ops (fun s'=>K s' = some y) l s
 | [],s,h=>h
 | o :: l,s,h=>by
  simp only [evT] at h;refine goes_pre (I:=I) ?_;generalize preT I s o = s at h ⊢;have next:∀ {s1:St} {ob1:Prop} {hh:Option Hint},astep P N ops hh s o = some (s1,ob1) -> ob1 -> evT T P N I ops l s1 K = some y -> Goes P r E ops (fun s'=>K s' = some y) (o :: l) s:=fun {s1 ob1 hh} h1 hob h2=>
   Goes.step hN h1 hob (evT_sound hT hI hE hN l s1 h2)
  split at h
  ·rename_i hw;split at h
   ·rename_i d hd;split at h
    ·rename_i hdN;exact next (hh:=none) (by simp only [astep,hw,hd,if_pos hdN]) trivial h
    ·cases h
   ·rename_i hd;exact next (hh:=none) (by simp only [astep,hw,hd]) trivial h
  ·rename_i hw;split at h
   ·rename_i d b n hnt;split at h
    ·rename_i hdN;have hdN:d < N:=Nat.le_of_ble_eq_true hdN;obtain ⟨h1,h2⟩:=nilE_some h;intro a w g K' Q hr hK;rw [wanted_sound hw hr];simp only [if_true];exact nil_step hnt (by rw [<- hN]; exact hdN) hr (fun hn _ ⟨g',hr'⟩=>hK _ _ _ g' (evT_sound hT hI hE hN l _ (h1 hn)) hr') (fun ⟨g',hr'⟩=>hK _ _ _ g' (evT_sound hT hI hE hN l _ h2) hr')
    ·cases h
   ·split at h
    ·rename_i f args hin;intro a w g K' Q hr hK;rw [wanted_sound hw hr];simp only [if_true];exact inl_step hI hE hN hin h hr fun s' a' w' g' hk hr'=>hK s' a' w' g' (evT_sound hT hI hE hN l s' (by rw [shareHead_eq] at hk; exact hk)) hr'
    ·rename_i hin;split at h
     ·rename_i ht;split at h
      ·rename_i t q hel;obtain ⟨e,he,h⟩:=obind_some h;split at h
       ·rename_i s1 c hat;rw [shareHead_eq] at h;exact next (hh:=some (.elem t e)) (s1:=s1) (ob1:=c.P) (by simp only [astep,hw,ht,if_true,hat,Option.map_some]) (tail_ob hel he hat) h
       ·cases h
      ·split at h
       ·rename_i s1 c hat;obtain ⟨hc,h⟩:=gd_some h;have now:evT T P N I ops l s1 K = some y -> Goes P r E ops (fun s'=>K s' = some y) (o :: l) s:=next (hh:=none) (s1:=s1) (ob1:=c.P) (by simp only [astep,hw,ht,if_true,hat,Option.map_some]) hc
        split at h
        ·rw [shareHead_eq] at h; exact now h
        ·rename_i hnc;by_cases hst:∃ t ad x n off,o.op = .store t ad x /\ evalO s ad = some ⟨.one,[.ptr n off]⟩
         ·obtain ⟨t,ad,x,n,off,hop,had⟩:=hst;intro a w g K' Q hr hK;rw [wanted_sound hw hr];simp only [if_true];exact Oper.wpIn_mono (fun a' w' hp=>by obtain ⟨g',hr'⟩:=hp; exact hK _ a' w' g' (evT_sound hT hI hE hN l _ h) hr') (store_keep hop hat hc hr ⟨n,off,had⟩)
         ·have hk:kept s o s1 = s1:=by
           unfold kept;split
           ·rename_i t ad x hop;split
            ·rename_i had _;exact absurd ⟨t,ad,x,_,_,hop,had⟩ hst
            ·rfl
           ·rfl
          rw [hk] at h;exact now h
       ·cases h
     ·rename_i ht;split at h
      ·rename_i d hd;split at h
       ·rename_i hdN;obtain ⟨hh,v,ob,b,h1,h2,h3⟩:=calm_sound hT hI.nw h;split at h3
        ·cases h3
        ·rename_i hvr;exact next (hh:=hh) (by simp only [astep,hw,ht,hd,if_pos hdN,h1,hvr]; rfl) h2 h3
       ·cases h
      ·cases h
  ·cases h
theorem evC_sound {I:Inl ρ} (hT:∀ e ∈ T,Ent.Ok P e) (hW:∀ q ∈ I.nw,NEnt.Ok P q) {b:List Nat} {am:Bool} {K:St -> List (Option Res) -> Option ρ} {y:ρ}:∀ (l:List Oper) (i:Nat) (tl:List Nat) (s:St) (acc:List (Option Res)),(∀ j ∈ tl,j < i) -> evC T P N I ops b am l i tl s acc K = some y ->
  ∃ hs tl' rs s' ob,(∀ j,j < i -> tl'.contains j = tl.contains j) /\ (∀ q ∈ hs,i <= q.1) /\ arunC P N ops hs tl' i l s = some (rs,s',ob) /\ ob /\ K s' (acc ++ rs) = some y
 | [],i,tl,s,acc,htl,h=>⟨[],tl,[],s,True,fun _ _=>rfl,by simp,rfl,trivial,by simpa [evC] using h⟩
 | o :: l,i,tl,s,acc,htl,h=>by
  have hnot:tl.contains i = false:=by
   cases hc:tl.contains i with
   | false=>rfl
   | true=>have:=htl i (by simpa using hc); omega
  have stop:evC T P N I ops b am l (i + 1) (tl ++ [i]) s (acc ++ [none]) K = some y -> ∃ hs tl' rs s' ob,(∀ j,j < i -> tl'.contains j = tl.contains j) /\ (∀ q ∈ hs,i <= q.1) /\ arunC P N ops hs tl' i (o :: l) s = some (rs,s',ob) /\ ob /\ K s' (acc ++ rs) = some y:=fun h=>by
   obtain ⟨hs,tl',rs,s',ob,ht,hk,ha,hob,hK⟩:=evC_sound hT hW l (i + 1) (tl ++ [i]) s _ (fun j hj=>by
    rcases List.mem_append.1 hj with hj | hj
    ·have:=htl j hj; omega
    ·simp at hj; omega) h
   refine ⟨hs,tl',none :: rs,s',ob,fun j hj=>?_,fun q hq=>by have:=hk q hq; omega,?_,hob,by rw [List.append_assoc] at hK; exact hK⟩
   ·rw [ht j (by omega),Bool.eq_iff_iff]
    simp;omega
   ·have:tl'.contains i = true:=by rw [ht i (by omega)]; simp
    simp only [arunC,this,ha]
  have stay:∀ {tl':List Nat},(∀ j,j < i + 1 -> tl'.contains j = tl.contains j) -> tl'.contains i = false:=fun ht=>by rw [ht i (by omega),hnot]
  simp only [evC] at h;split at h
  ·exact stop h
  ·split at h
   ·rename_i hw;split at h
    ·rename_i d hd;split at h
     ·rename_i hdN;obtain ⟨hs,tl',rs,s',ob,ht,hk,ha,hob,hK⟩:=evC_sound hT hW l (i + 1) tl _ _ (fun j hj=>by have:=htl j hj; omega) h
      refine ⟨hs,tl',_ :: rs,s',ob,fun j hj=>ht j (by omega),fun q hq=>by have:=hk q hq; omega,?_,hob,by rw [List.append_assoc] at hK; exact hK⟩
      simp only [arunC,stay ht,hw,hd,if_pos hdN,ha]
     ·cases h
    ·cases h
   ·rename_i hw;split at h
    ·exact stop h
    split at h
    ·rename_i htt;split at h
     ·split at h
      ·rename_i q c hae;obtain ⟨hc,h⟩:=gd_some h;obtain ⟨hs,tl',rs,s',ob,ht,hk,ha,hob,hK⟩:=evC_sound hT hW l (i + 1) tl _ _ (fun j hj=>by have:=htl j hj; omega) h
       refine ⟨hs,tl',_ :: rs,s',c.P /\ ob,fun j hj=>ht j (by omega),fun q hq=>by have:=hk q hq; omega,?_,⟨hc,hob⟩,by rw [List.append_assoc] at hK; exact hK⟩
       simp only [arunC,stay ht,hw,htt,hae,ha]
      ·exact stop h
     ·exact stop h
    ·rename_i htt;split at h
     ·rename_i d hd;split at h
      ·rename_i hdN;obtain ⟨hh,v,ob1,x,h1,h2,h3⟩:=calm_sound hT hW h;split at h3
       ·cases h3
       ·rename_i hvr;obtain ⟨hs,tl',rs,s',ob,ht,hk,ha,hob,hK⟩:=evC_sound hT hW l (i + 1) tl _ _ (fun j hj=>by have:=htl j hj; omega) h3
        obtain ⟨hs',m1,m2,m3,m4⟩:=lookup_ahead (h:=hh) (i:=i) (hs:=hs) hk;refine ⟨hs',tl',_ :: rs,s',ob1 /\ ob,fun j hj=>ht j (by omega),m1,?_,⟨h2,hob⟩,by rw [List.append_assoc] at hK; exact hK⟩
        simp only [arunC,stay ht,hw,htt,hd,if_pos hdN,m2,h1,hvr];rw [arunC_hint (h2:=hs) l (i + 1) _ m3,ha];simp
      ·cases h
     ·cases h
   ·cases h
end
end Go.Proofs.YthnagpmnoncijaaGreat.M
