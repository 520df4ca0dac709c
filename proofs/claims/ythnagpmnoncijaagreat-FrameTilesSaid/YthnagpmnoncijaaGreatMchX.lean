/- A part of the proof. -/
import Derived.Test.YthnagpmnoncijaaGreatMchW
set_option linter.unusedVariables false
namespace Go.Proofs.YthnagpmnoncijaaGreat.M
open Go Go.RowKit
attribute [local irreducible] lim sh
section
variable {P:Program} {E:Env} {s s':St} {a:Act} {w:World} {g:Gh} {N U:Nat} {T:List Ent}
theorem joinRes_sound {c:Ctx} {l:List SV} {v:SV} {vs:List Value} (h:joinRes l = some v) (hl:vs.length = l.length) (hc:∀ (i:Nat) x y,l[i]? = some x -> vs[i]? = some y -> ∃ pl,SVR c pl x y) (hpl:l.all (fun v=>v.cs.all Cell.shown) = true) :
  v.cs.all Cell.shown = true /\ ∃ pl,SVR c pl v (if h:vs.length = 1 then vs[0] else .tuple vs.toArray):=by
 have other:∀ sh,shapesOf l = some sh -> l.length ≠ 1 -> v = ⟨.tup sh,l.flatMap (·.cs)⟩ -> v.cs.all Cell.shown = true /\ ∃ pl,SVR c pl v (if h:vs.length = 1 then vs[0] else .tuple vs.toArray):=fun sh hsh hne hv=>by
  subst hv;obtain ⟨i1,i2,i3,i4⟩:=shapesOf_sound l sh vs hsh hl hc;rw [dif_neg (by omega)]
  have hplain:(l.flatMap (·.cs)).all Cell.shown = true:=by
   rw [List.all_eq_true] at hpl ⊢;intro x hx;obtain ⟨v,hv,hxv⟩:=List.mem_flatMap.1 hx;have:=hpl v hv;rw [List.all_eq_true] at this;exact this x hxv
  refine ⟨hplain,.slot 0,vs.flatMap flat,by simp [Shape.mk,i1],by simp [flat,i2],i3,fun i x z hx hz=>?_⟩
  obtain ⟨j1,p,j2⟩:=i4 i x z hx hz;refine ⟨j1,shown_mono ?_ j2 (fun _ _ _ h1 h2=>⟨h2,h1⟩)⟩
  rw [List.all_eq_true] at hplain;exact hplain x (List.mem_of_getElem? hx)
 unfold joinRes at h;split at h
 ·rename_i x;injection h with h; subst h
  match vs,hl,hc with
  | [u],_,hc=>
   simp only [List.all_cons,List.all_nil,Bool.and_true] at hpl;exact ⟨hpl,by simpa using hc 0 x u rfl rfl⟩
 ·rename_i l' hne;cases hsh:shapesOf l with
  | none=>rw [hsh] at h; cases h
  | some sh=>
   rw [hsh] at h;injection h with h
   exact other sh hsh (fun h1=>by
    match l,h1 with
    | [x],_=>exact hne x rfl) h.symm
theorem lendSVs_sound {K:Nat -> Nat -> Prop} (hr:Rel E s a w g) (hK:∀ b i,ok E.base E.k0 g.perm b i -> K b i) (hB:∀ n e cs,s.boxes.lookup n = some (e,cs) -> ∀ i,K (g.ι n) i):∀ {l l':List SV} {vs:List Value},lendSVs s l = some l' -> l'.all (fun v=>v.cs.all Cell.plain) = true -> vs.length = l.length ->
  (∀ (i:Nat) x y,l[i]? = some x -> vs[i]? = some y -> ∃ pl,SVR (ctx E g a w) pl x y) -> vs.length = l'.length /\ ∀ (i:Nat) x y,l'[i]? = some x -> vs[i]? = some y -> ∃ pl,SVR (lentCtx w K) pl x y
 | [],l',vs,h,hp,hl,hc=>by simp [lendSVs] at h; subst h; simpa using hl
 | v :: r,l',vs,h,hp,hl,hc=>by
  simp only [lendSVs] at h;split at h
  ·rename_i cs b l2 h1 h2;injection h with h;subst h;simp only [List.all_cons,Bool.and_eq_true] at hp
   match vs,hl with
   | u :: us,hl=>
    obtain ⟨a1,a2⟩:=lendSVs_sound hr hK hB (vs:=us) h2 hp.2 (by simpa using hl) (fun i x y hx hy=>hc (i + 1) x y (by simpa using hx) (by simpa using hy))
    refine ⟨by simp [a1],fun i x y hx hy=>?_⟩
    cases i with
    | zero=>
     simp at hx hy; subst hx hy;obtain ⟨pl,us',e1,e2,e3,e4⟩:=hc 0 v u rfl rfl;obtain ⟨k1,k2⟩:=lends_sound hr hK h1 (fun _=>hB) e4 hp.1 e3
     exact ⟨_,us',e1,e2,k1,k2⟩
    | succ i=>exact a2 i x y (by simpa using hx) (by simpa using hy)
  ·cases h
def homeOf:List ResultVar -> Place -> Place
 | .tmp t :: _,p=>if p = .slot t 0 then .slot 0 0 else p
 | _,p=>p
def unboxR (rs:List ResultVar):Perm -> Perm
 | .box _=>.free
 | .row p tip=>.row (homeOf rs p) tip
 | .free=>.free
theorem joinRes_cons {c c':Cell} {L:List SV} {v:SV} (h:joinRes (one c :: L) = some v):∃ tl,v.cs = c :: tl /\ joinRes (one c' :: L) = some ⟨v.sh,c' :: tl⟩:=by
 cases L with
 | nil=>
  simp only [joinRes,Option.some.injEq] at h;subst h;exact ⟨[],rfl,rfl⟩
 | cons y L=>
  simp only [joinRes] at h ⊢;cases hs:shapesOf (one c :: y :: L) with
  | none=>rw [hs] at h; cases h
  | some sh=>
   rw [hs] at h;simp only [Option.map_some,Option.some.injEq] at h;subst h;have hs':shapesOf (one c' :: y :: L) = some sh:=by rw [<- hs]; rfl
   refine ⟨(y :: L).flatMap (·.cs),rfl,?_⟩;rw [hs'];rfl
theorem DV.len {w:World} {k:Nat -> Nat -> Prop} {t:Ty} {l:List t.T} {u:Value} (h:DV w k (.lst t l) u):∃ a cap,u = .slice a l.length cap:=by
 cases h with
 | emp t a cap h=>exact ⟨a,cap,rfl⟩
 | lst t l b off cap u hc h1 hd hcap hm=>exact ⟨_,cap,rfl⟩
theorem ownHead_own {e:Nat} {t:Ty} {rs:List ResultVar} {l:List SV} (h:ownHead (.own e t) rs l = true):∃ t0 rr c lr,rs = .tmp t0 :: rr /\ l = ⟨.one,[c]⟩ :: lr /\ c.isRow e t = true:=by
 match rs,l,h with
 | .tmp t0 :: rr,⟨.one,[c]⟩ :: lr,h=>exact ⟨t0,rr,c,lr,rfl,rfl,h⟩
theorem ownHead_cons {e:Nat} {t:Ty} {b:AT} {rs:List ResultVar} {l:List SV} (h:ownHead (.cons (.own e t) b) rs l = true):∃ t0 rr c lr,rs = .tmp t0 :: rr /\ l = ⟨.one,[c]⟩ :: lr /\ c.isRow e t = true /\ b.bare = true:=by
 match rs,l,h with
 | .tmp t0 :: rr,⟨.one,[c]⟩ :: lr,h=>
  have h:(c.isRow e t && b.bare) = true:=h;rw [Bool.and_eq_true] at h;exact ⟨t0,rr,c,lr,rfl,rfl,h.1,h.2⟩
theorem fin_sound {R:AT} {rs:List ResultVar} {l l':List SV} {x:R.T} {v:SV} {vs:List Value} {k:Nat -> Nat -> Prop} {perm:Nat -> Perm} (hr:Rel E s a w g) (hl:resOf P s rs = some l) (er:(rs.mapM (resSem a.tmps)).run P w = .ok vs w) (hlv:vs.length = l.length)
  (hcv:∀ (i:Nat) x y,l[i]? = some x -> vs[i]? = some y -> ∃ pl,SVR (ctx E g a w) pl x y) (hown:ownHead R rs l = true) (hd:R.decR l' = some (x,[])) (hv:joinRes (R.svs x) = some v) (b1:vs.length = l'.length)
  (b2:∀ (i:Nat) x y,l'[i]? = some x -> vs[i]? = some y -> ∃ pl,SVR (lentCtx w k) pl x y) (hperm:∀ (t:Nat) b,perm b = unboxR rs (g.perm b)):SVR ⟨w,k,perm,fun _=>0,fun _=>none,k⟩ (.slot 0) v (if h:vs.length = 1 then vs[0] else .tuple vs.toArray):=by
 have plain:∀ {a:AT} {x:a.T},a.bare = true -> a.dec l' = some (x,[]) -> joinRes (a.svs x) = some v -> SVR ⟨w,k,perm,fun _=>0,fun _=>none,k⟩ (.slot 0) v (if h:vs.length = 1 then vs[0] else .tuple vs.toArray):=fun {a x} hno hd hv=>by
  obtain ⟨d1,d2,d3⟩:=dec_weak hd;have hlr:l'.length = (a.svs x).length:=by simpa using d1
  obtain ⟨v1,pl,v2⟩:=joinRes_sound (c:=lentCtx w k) hv (by rw [b1,hlr]) (fun i z u hz hu=>by
   have hi:i < l'.length:=by rw [hlr]; exact (List.getElem?_eq_some_iff.1 hz).1
   obtain ⟨pl,hs⟩:=b2 i _ u (List.getElem?_eq_getElem hi) hu
   exact d3 i _ z (List.getElem?_eq_getElem hi) hz _ pl u hs) (svs_shown hno)
  obtain ⟨us,e1,e2,e3,e4⟩:=v2;refine ⟨us,e1,e2,e3,fun i q z hq hz=>⟨(e4 i q z hq hz).1,shown_mono ?_ (e4 i q z hq hz).2 (fun b j z k1 k2=>⟨k2,k1⟩)⟩⟩
  rw [List.all_eq_true] at v1;exact v1 q (List.mem_of_getElem? hq)
 have row:∀ {e:Nat} {t:Ty} {b:AT} {t0:Nat} {rr:List ResultVar} {c:Cell} {lr:List SV} {xs:List t.T} {y:b.T} {v0:SV} {r:List SV},rs = .tmp t0 :: rr -> l = ⟨.one,[c]⟩ :: lr -> c.isRow e t = true -> b.bare = true -> l' = v0 :: r -> v0.sh = .one -> decC (.list t) v0.cs = some (xs,[]) -> b.dec r = some (y,[]) ->
   joinRes (one (.own e t xs) :: b.svs y) = some v -> SVR ⟨w,k,perm,fun _=>0,fun _=>none,k⟩ (.slot 0) v (if h:vs.length = 1 then vs[0] else .tuple vs.toArray):=fun {e t b t0 rr c lr xs y v0 r} hrs hll hrow hbn hl' hsh hdl hdb hj=>by
  subst hrs; subst hll; subst hl';obtain ⟨tl,hvc,hjw⟩:=joinRes_cons (c':=.lst t xs) hj;obtain ⟨d1,d2,d3⟩:=dec_weak hdb;have hlr:r.length = (b.svs y).length:=by simpa using d1
  obtain ⟨u0,us0,hus⟩:∃ u0 us0,vs = u0 :: us0:=by
   cases vs with
   | nil=>simp at hlv
   | cons u0 us0=>exact ⟨u0,us0,rfl⟩
  subst hus;have hslot0:s.look t0 = some ⟨.one,[c]⟩:=by
   simp only [resOf] at hl;split at hl
   ·rename_i v1 hv1;cases h1:resOf P s rr with
    | none=>simp [h1] at hl
    | some l2=>simp [h1] at hl; rw [hv1,hl.1]
   ·cases hl
  obtain ⟨hl0,hslot⟩:=look_some hslot0;have hu0':u0 = a.tmps.getD t0 undef:=by
   simp only [List.mapM_cons,Sem.run_bind,resSem,Sem.run_pure,Result.andThen_ok] at er;cases h1:(rr.mapM (resSem a.tmps)).run P w with
   | ok vs2 w2=>
    rw [h1] at er;simp only [Result.andThen_ok] at er;injection er with er;injection er with er;exact er.symm
   | _=>rw [h1] at er; cases er
  have hu0:u0 = tv g.dy.out a t0:=by rw [hu0']; exact (tv_own hl0).symm
  obtain ⟨c1,c2⟩:=(hr.slots t0 _ hslot).one;rw [<- hu0] at c1 c2
  obtain ⟨v1,pl,us,e1,e2,e3,e4⟩:=joinRes_sound (c:=lentCtx w k) (vs:=u0 :: us0) hjw (by simp at b1 ⊢; omega) (fun i z u hz hu=>by
   cases i with
   | zero=>
    simp at hz hu;subst hz; subst hu;obtain ⟨pl,hs⟩:=b2 0 v0 u0 rfl rfl;obtain ⟨us',f1,f2,f3,f4⟩:=hs;obtain ⟨a1,a2,a3⟩:=decC_sound (c:=lentCtx w k) (us:=us') (pl:=pl) hdl f3 f4;rw [hsh] at f1;have hone:us'.length = 1:=by rw [f3]; simpa [Ty.n] using a1
    match us',hone with
    | [z0],_=>
     have hz0:u0 = z0:=f1;obtain ⟨g1,g2⟩:=a3 0 (.lst t xs) z0 rfl rfl;rw [<- hz0] at g1 g2;exact ⟨.slot 0,SVR.of_one g1 g2⟩
   | succ i=>
    have hz:(b.svs y)[i]? = some z:=by simpa using hz
    have hi:i < r.length:=by rw [hlr]; exact (List.getElem?_eq_some_iff.1 hz).1
    obtain ⟨pl,hs⟩:=b2 (i + 1) r[i] u (by rw [List.getElem?_cons_succ]; exact List.getElem?_eq_getElem hi) hu
    exact d3 i _ z (List.getElem?_eq_getElem hi) hz _ pl u hs) (by
   have:=svs_shown (x:=y) hbn;simp only [List.all_cons,Bool.and_eq_true]
   exact ⟨rfl,this⟩)
  have hus0:us[0]? = some u0:=by
   have hfl:(flat (if h:(u0 :: us0).length = 1 then (u0 :: us0)[0] else .tuple (u0 :: us0).toArray))[0]? = some u0:=by
    split
    ·simp [flat_one c1]
    ·simp [flat,cells_one c1]
   rw [e2] at hfl;exact hfl
  simp only at e3 e4 v1;refine ⟨us,e1,e2,by rw [hvc]; simpa using e3,fun i q z hq hz=>?_⟩
  rw [hvc] at hq;cases i with
  | zero=>
   simp at hq;subst hq;rw [hus0] at hz;injection hz with hz;subst hz;obtain ⟨g1,g2⟩:=e4 0 (.lst t xs) u0 rfl hus0;refine ⟨g1,?_⟩;have g2:DV w k (.lst t xs) u0:=g2;have hlen:∀ {u:Value} {ts:Ty} {l1:List ts.T} {l2:List t.T} {k1 k2:Nat -> Nat -> Prop},DV w k1 (.lst ts l1) u -> DV w k2 (.lst t l2) u -> l1.length = l2.length:=fun {u ts l1 l2 k1 k2} h1 h2=>by
    obtain ⟨a1,c1,e1⟩:=h1.len;obtain ⟨a2,c2,e2⟩:=h2.len;rw [e1] at e2;injection e2
   cases c with
   | nilS=>
    have hnil:u0 = .slice none 0 0:=c2;have hx0:xs.length = 0:=by
     rw [hnil] at g2;cases g2; rfl
    refine ⟨⟨[],?_⟩,g2,fun b hb=>by rw [hnil] at hb; simp [Value.ownBlock] at hb⟩
    rw [hnil,hx0];exact World.ownsRow_nil _ _ _ _
   | own e' t' l1=>
    simp only [Cell.isRow,Bool.and_eq_true,decide_eq_true_eq] at hrow;obtain ⟨he,ht⟩:=hrow;have he:=Nat.eq_of_beq_eq_true he;subst he; subst ht;obtain ⟨h1,h2,h3⟩:=c2;have hll:=hlen h2 g2;refine ⟨by rw [<- hll]; exact h1,g2,fun b hb=>?_⟩
    have hp:g.perm b = .row (.slot t0 0) (l1.length * t'.n):=h3 b hb;show perm b = _;rw [hperm t0 b,hp,<- hll];simp [unboxR,homeOf]
   | _=>simp [Cell.isRow] at hrow
  | succ i=>
   have hq:tl[i]? = some q:=by simpa using hq
   refine ⟨(e4 (i + 1) q z (by simpa using hq) hz).1,shown_mono ?_ (e4 (i + 1) q z (by simpa using hq) hz).2 (fun b j z k1 k2=>⟨k2,k1⟩)⟩
   rw [List.all_eq_true] at v1;exact v1 q (List.mem_cons_of_mem _ (List.mem_of_getElem? hq))
 cases R with
 | own e t=>
  cases l' with
  | nil=>simp [AT.decR] at hd
  | cons v0 r=>
   simp only [AT.decR] at hd;split at hd
   ·rename_i hsh;split at hd
    ·rename_i xs hdl;injection hd with hd;injection hd with hd1 hd2;subst hd1; subst hd2;obtain ⟨t0,rr,c,lr,h1,h2,h3⟩:=ownHead_own hown;exact row (b:=.nil) (y:=()) h1 h2 h3 rfl rfl hsh hdl rfl hv
    ·cases hd
   ·cases hd
 | cons a b=>
  cases a with
  | own e t=>
   cases l' with
   | nil=>simp [AT.decR,AT.dec] at hd
   | cons v0 r=>
    simp only [AT.decR] at hd;split at hd
    ·rename_i hsh;split at hd
     ·rename_i xs hdl;split at hd
      ·rename_i y r' hdb;injection hd with hd;injection hd with hd1 hd2;subst hd1; subst hd2;obtain ⟨t0,rr,c,lr,h1,h2,h3,h4⟩:=ownHead_cons hown;exact row h1 h2 h3 h4 rfl hsh hdl hdb hv
      ·cases hd
     ·cases hd
    ·cases hd
  | _=>exact plain (show AT.bare _ = true from hown) hd hv
 | _=>exact plain (show AT.bare _ = true from hown) hd hv
def topE (w:World) (k:Nat -> Nat -> Prop):Env:=⟨0,w.heap.size,fun _=>False,w,k,none,fun _=>0,fun _=>none,fun dy=>dy = ⟨fun _=>undef,[],fun _=>none⟩,Nat.zero_le _,fun _ _ h=>h.elim⟩
theorem topE_lp {w:World} {k:Nat -> Nat -> Prop}:(topE w k).Lp P:=
 ⟨fun n x h=>(by cases h),fun dy hJ n hn=>.inl ⟨rfl,(by have hJ:dy = _:=hJ; rw [hJ])⟩,fun dy hJ n x h=>(by cases h),fun dy n x c hJ h=>(by cases h)⟩
theorem Ent.of (hT:∀ e ∈ T,Ent.Ok P e) (hmo:P.follows .mixedOrders = true) {f:Nat} {fn:Func} {c:Code} {A R:AT} {F:A.T -> Option R.T} {G:List (Nat × Seg)} (hf:P.funcs[f]? = some fn) (hn:(fn.name == "runtime.NumGoroutine") = false) (hb:fn.body = some c) (hNN:fn.ntmps = N) (hlim:Nat.ble N lim = true)
  (hA:A.noOwn = true) (hlen:∀ y,Nat.ble (A.svs y).length N = true) {rs:List ResultVar} (hrs:fn.results.toList = rs) (hG:SegsOk P N c G) {I:Inl R.T} (hI:InlsOk P I) (h:∀ y,F y = ev T P N U f G I c 1 ⟨fnSlots 0 (A.svs y),[]⟩ (fin P rs R)):Ent.Ok P ⟨f,A,R,F⟩:=by
 subst hNN;intro y x v hy hv;have hy:F y = some x:=hy;rw [h y] at hy;have hlen:(A.svs y).length <= fn.ntmps:=Nat.le_of_ble_eq_true (hlen y);refine ⟨fun as w=>?_,fun rd w k vs hvl hvs=>?_⟩
 ·have h1:fn.name ≠ "runtime.NumGoroutine":=by simpa using hn
  simp [callFunc,hf,h1,hb,mark]
 ·let g0:Gh:=⟨fun _=>0,fun _=>.free,⟨fun _=>undef,[],fun _=>none⟩⟩
  let a0:Act:={ tmps:=#[],defers:=[] }
  let E:Env:=(topE w k).inner a0 g0 fn.ntmps none (Nat.le_of_ble_eq_true hlim)
  have hE:E.Ok P:=⟨(topE_lp (P:=P)).inner (g:=g0) (fun n hn=>rfl) (fun x hx=>by cases hx),Env.Rd.inner (fun l hl=>by cases hl),by show (if lim < sh then none else (none:Option LpI)) = none; rw [if_pos lim_sh]⟩
  have hvl:vs.length = (A.svs y).length:=hvl;have hsz:(vs.toArray ++ Array.replicate (fn.ntmps - vs.toArray.size) undef).size = fn.ntmps:=by simp; omega
  have hget:∀ t,t < vs.length -> (vs.toArray ++ Array.replicate (fn.ntmps - vs.toArray.size) undef).getD t undef = vs[t]?.getD undef:=fun t ht=>by
   rw [Array.getD_eq_getD_getElem?,Array.getElem?_append_left (by simpa using ht)]
   simp
  have hR:Rel E ⟨fnSlots 0 (A.svs y),[]⟩ { tmps:=vs.toArray ++ Array.replicate (fn.ntmps - vs.toArray.size) undef,defers:=[] } w ⟨fun _=>0,fun _=>.free,dyIn a0 [] g0.dy⟩:=by
   refine ⟨⟨(fnSlots_uniq (A.svs y) 0).1,by simp [Uniq]⟩,fun t x hx=>?_,fun n e cs hn=>by simp at hn,fun n e cs hn=>by simp at hn,fun b hb=>absurd rfl hb,Bel.refl _ _ _,Nat.le_refl _,hsz,rfl,fun l o hl=>by simp [dyIn,g0] at hl,fun n hn=>rfl,⟨g0.dy,[],rfl,rfl,fun _=>rfl,List.nodup_nil,fun D hD=>(by cases hD),rfl⟩⟩
   obtain ⟨_,hx⟩:=fnSlots_look (A.svs y) 0 t x hx;simp only [Nat.sub_zero] at hx;have ht:t < vs.length:=by have:=(List.getElem?_eq_some_iff.1 hx).1; omega
   have hlt:t < lim:=by
    have:=Nat.le_of_ble_eq_true hlim;omega
   rw [tv_own hlt];show SVR _ _ _ (Array.getD _ t undef);rw [hget t ht,List.getElem?_eq_getElem ht];obtain ⟨us,e1,e2,e3,e4⟩:=hvs t x _ hx (List.getElem?_eq_getElem ht);refine ⟨us,e1,e2,e3,fun i q z hq hz=>⟨(e4 i q z hq hz).1,?_⟩⟩
   have hqp:q.plain = true:=by
    have hpl:=svs_plain (a:=A) (x:=y) hA;rw [List.all_eq_true] at hpl;have:=hpl x (List.mem_of_getElem? hx);rw [List.all_eq_true] at this;exact this q (List.mem_of_getElem? hq)
   refine plain_mono hqp (e4 i q z hq hz).2 (fun b j z k1 k2=>⟨k2,?_⟩) (fun b j z k1 k2=>⟨k2,.inl ⟨World.block_lt_of_cell? w ⟨b,j,none⟩ k2,fun h=>h.elim⟩⟩)
   have hbl:b < w.heap.size:=World.block_lt_of_cell? w ⟨b,j,none⟩ k2;show ok w.heap.size k (fun _=>.free) b j
   simp only [ok,if_pos hbl];exact k1
  have hw:=ev_sound (E:=E) hT hI hE hmo rfl ⟨fn,hf,hb,rfl⟩ hG c 1 _ _ x .root hy _ w _ hR;have hc:CallsIn (Fr none) 9 P f vs.toArray w fun e w'=>∃ u perm,e = .returned u /\ Below w.heap.size w w' /\ (∀ b,perm b ≠ .free -> w.heap.size <= b /\ b < w'.heap.size) /\
    SVR ⟨w',ok w.heap.size k perm,perm,fun _=>0,fun _=>none,ok w.heap.size k perm⟩ (.slot 0) v u:=by
   refine callsIn_of_wp_marks hf hb trivial (wpIn_mono hw fun e a1 w1 hq=>?_)
   obtain ⟨s',g1,hq,hR1⟩:=hq
   have go:(match resOf P s' rs with
    | some l=>match lendSVs s' l with
     | some l'=>match l'.all (fun v=>v.cs.all Cell.plain) && ownHead R rs l with
      | true=>match R.decR l' with
       | some (x,[])=>some x
       | _=>none
      | false=>none
     | none=>none
    | none=>none) = some x -> LeavesInM (Fr none) 9 P fn a1.tmps (fun e w'=>∃ u perm,e = .returned u /\ Below w.heap.size w w' /\ (∀ b,perm b ≠ .free -> w.heap.size <= b /\ b < w'.heap.size) /\
    SVR ⟨w',ok w.heap.size k perm,perm,fun _=>0,fun _=>none,ok w.heap.size k perm⟩ (.slot 0) v u) a1.defers .returning w1:=fun hgo=>by
    refine marks_out hE.rd rfl _ _ _ _ rfl hR1 fun w' g' hR'=>?_
    split at hgo
    ·rename_i l hl;split at hgo
     ·rename_i l' hl';split at hgo
      ·rename_i hpl0;rw [Bool.and_eq_true] at hpl0;obtain ⟨hpl,hown⟩:=hpl0;split at hgo
       ·rename_i x' hd;injection hgo with hgo;subst hgo;obtain ⟨vs',er,hlv,hcv⟩:=resOf_sound _ l hl hR';have hrun:=results_run (P:=P) (w:=w') (fn:=fn) (by rw [hrs]; exact er)
        let perm:Nat -> Perm:=fun b=>unboxR rs (g'.perm b)
        have hK:∀ b i,ok E.base E.k0 g'.perm b i -> ok w.heap.size k perm b i:=fun b i h1=>by
         have h1:ok w.heap.size k g'.perm b i:=h1;simp only [ok] at h1 ⊢;split
         ·rename_i hlt; rw [if_pos hlt] at h1; exact h1
         ·rename_i hlt;rw [if_neg hlt] at h1;simp only [okp,perm] at h1 ⊢;cases hp:g'.perm b with
          | free=>simp [unboxR]
          | box n=>simp [unboxR]
          | row p tip=>rw [hp] at h1; exact h1
        obtain ⟨b1,b2⟩:=lendSVs_sound (K:=ok w.heap.size k perm) hR' hK (fun n e cs hn i=>by
         have hp:=(hR'.boxes n e cs hn).1;have hlo:=(hR'.lo (g'.ι n) (by rw [hp]; simp)).1
         have hlo:w.heap.size <= g'.ι n:=hlo.resolve_right fun h=>h.1.elim
         simp only [ok,if_neg (show ¬ g'.ι n < w.heap.size by omega),okp,perm,hp,unboxR]) hl' hpl hlv hcv
        have fin:SVR ⟨w',ok w.heap.size k perm,perm,fun _=>0,fun _=>none,ok w.heap.size k perm⟩ (.slot 0) v (if h:vs'.length = 1 then vs'[0] else .tuple vs'.toArray):=by
         exact fin_sound (rs:=rs) hR' hl er hlv hcv hown hd hv b1 b2 (fun _ _=>rfl)
        exact ⟨_,hrun,_,perm,rfl,hR'.below.below fun _ h=>h.elim,fun b hb=>(hR'.lo b fun h0=>hb (by simp only [perm,h0,unboxR])).imp (fun h=>h.resolve_right fun h=>h.1.elim) id,fin⟩
       ·cases hgo
      ·cases hgo
     ·cases hgo
    ·cases hgo
   cases e with
   | normal=>exact go hq
   | ret=>exact go hq
   | _=>cases hq
  exact ⟨trivial,hc.2⟩
theorem joinIn_sound {c:Ctx} {l:List SV} {v:SV} {vs:List Value} (h:joinRes l = some v) (hl:vs.length = l.length) (hc:∀ (i:Nat) x y,l[i]? = some x -> vs[i]? = some y -> ∃ pl,SVR c pl x y) (hno:∀ x ∈ l,x.cs.any Cell.isOwn = false) :
  v.cs.any Cell.isOwn = false /\ ∃ pl,SVR c pl v (if h:vs.length = 1 then vs[0] else .tuple vs.toArray):=by
 have other:∀ sh,shapesOf l = some sh -> l.length ≠ 1 -> v = ⟨.tup sh,l.flatMap (·.cs)⟩ -> v.cs.any Cell.isOwn = false /\ ∃ pl,SVR c pl v (if h:vs.length = 1 then vs[0] else .tuple vs.toArray):=fun sh hsh hne hv=>by
  subst hv;obtain ⟨i1,i2,i3,i4⟩:=shapesOf_sound l sh vs hsh hl hc;rw [dif_neg (by omega)]
  have hown:∀ x ∈ l.flatMap (·.cs),x.isOwn = false:=fun x hx=>by
   obtain ⟨v,hv,hxv⟩:=List.mem_flatMap.1 hx;have:=hno v hv;rw [List.any_eq_false] at this;simpa using this x hxv
  refine ⟨?_,.slot 0,vs.flatMap flat,by simp [Shape.mk,i1],by simp [flat,i2],i3,fun i x z hx hz=>?_⟩
  ·show (l.flatMap (·.cs)).any Cell.isOwn = false;rw [List.any_eq_false];intro x hx;rw [hown x hx];decide
  ·obtain ⟨j1,p,j2⟩:=i4 i x z hx hz;exact ⟨j1,j2.place (hown x (List.mem_of_getElem? hx))⟩
 unfold joinRes at h;split at h
 ·rename_i x;injection h with h; subst h
  match vs,hl,hc with
  | [u],_,hc=>
   exact ⟨hno x (by simp),by simpa using hc 0 x u rfl rfl⟩
 ·rename_i l' hne;cases hsh:shapesOf l with
  | none=>rw [hsh] at h; cases h
  | some sh=>
   rw [hsh] at h;injection h with h
   exact other sh hsh (fun h1=>by
    match l,h1 with
    | [x],_=>exact hne x rfl) h.symm
theorem outSVs_sound {N':Nat} {rd:Option Nat} {hN:N' <= lim} {a0 a1:Act} {g0:Gh} {pn:Plan} (hp:pn.ok = true) {ms:List Nat} {d:Dy} (hd:g.dy = dyIn a0 ms d):∀ {l l':List SV} {vs:List Value},outSVs pn l = some l' -> vs.length = l.length -> (∀ (i:Nat) x y,l[i]? = some x -> vs[i]? = some y -> ∃ pl,SVR (ctx (E.inner a0 g0 N' rd hN) g a1 w) pl x y) ->
  vs.length = l'.length /\ (∀ x ∈ l',x.cs.any Cell.isOwn = false) /\ ∀ (i:Nat) x y,l'[i]? = some x -> vs[i]? = some y -> ∃ pl,SVR (ctx E (downG pn g d) a0 w) pl x y
 | [],l',vs,h,hl,hc=>by simp [outSVs] at h; subst h; exact ⟨by simpa using hl,by simp,by simp⟩
 | v :: r,l',vs,h,hl,hc=>by
  simp only [outSVs] at h;split at h
  ·rename_i x l2 h1 h2;injection h with h;subst h
   match vs,hl with
   | u :: us,hl=>
    obtain ⟨i1,i2,i3⟩:=outSVs_sound (vs:=us) hp hd h2 (by simpa using hl) (fun i x y hx hy=>hc (i + 1) x y (by simpa using hx) (by simpa using hy))
    unfold outSV at h1;split at h1
    ·rename_i hfar;injection h1 with h1;subst h1;obtain ⟨pl,hv⟩:=hc 0 v u rfl rfl;have hcp:SVR (ctx (E.inner a0 g0 N' rd hN) g a1 w) (fun _=>.slot 0 0) ⟨v.sh,copyCells false (fun _=>.slot 0 0) 0 v.cs⟩ u:=SVR.copy (pl:=pl) (pl':=fun _=>.slot 0 0) (by cases v; exact hv) fun h=>by cases h
     have hno:(copyCells false (fun _=>.slot 0 0) 0 v.cs).any Cell.isOwn = false:=copyCells_notOwn _ _
     have hd2:=SVR.down (E:=E) (a:=a0) (pl':=fun _=>(Place.slot 0 0).ren downN pn.dn) hp hd hcp hfar (fun _=>rfl) (fun i y hy ho=>by
      rw [List.any_eq_false] at hno
      exact absurd ho (hno y (List.mem_of_getElem? hy)))
     refine ⟨by simp [i1],fun x hx=>?_,fun i x y hx hy=>?_⟩
     ·rcases List.mem_cons.1 hx with rfl | hx
      ·exact notOwn_ren (x:=⟨v.sh,copyCells false (fun _=>.slot 0 0) 0 v.cs⟩) hno
      ·exact i2 x hx
     ·cases i with
      | zero=>
       simp at hx hy;subst hx; subst hy;exact ⟨_,hd2⟩
      | succ i=>exact i3 i x y (by simpa using hx) (by simpa using hy)
    ·cases h1
  ·cases h
theorem InlsOk.mvd {ρ:Type} {I:Inl ρ} (h:InlsOk P I) (b:Bool):InlsOk P (I.mvd b):=⟨h.1,h.2,h.3⟩
theorem resMv_sound {rs:List ResultVar} {l:List SV} (h:resMv P s rs = some l) (hr:Rel E s a w g) :
  ∃ vs:List Value,(rs.mapM (resSem a.tmps)).run P w = .ok vs w /\ vs.length = l.length /\ ∀ (i:Nat) x y,l[i]? = some x -> vs[i]? = some y -> SVR (ctx E g a w) (fun _=>.slot 0 0) x y /\ x.cs.any Cell.isOwn = false:=by
 unfold resMv at h;split at h
 ·rename_i q ty;split at h
  ·rename_i n off hq;split at h
   ·rename_i e cs hb;split at h
    ·rename_i v hv;injection h with h;subst h;have hp:a.tmps.getD q undef = .pointer (some ⟨g.ι n,off,none⟩):=by
      have k:=hr.slots q _ (look_some hq).2;rw [tv_own (look_some hq).1] at k;exact k.one.2
     obtain ⟨us,hh,hlu,hcs⟩:=hr.norm hb;obtain ⟨u,sz,k1,k2,k3,k4,k5⟩:=partSV_sound hv hlu hcs;have hload:=loadAt_run (P:=P) (w:=w) (b:=g.ι n) (off:=off) k1 k2 (fun ht=>⟨_,(k4 ht).1,by have:=(k4 ht).2; simp; omega,rangeAt_of_heap hh off sz⟩) (fun hf=>by simp [World.cell?,hh,k5 hf])
     have hload2:(loadVar ty ⟨g.ι n,off,none⟩).run P w = .ok u w:=by
      simpa [Instr.loadAt,Instr.sureAddr,Sem.run_bind] using hload
     refine ⟨[u],by simp [List.mapM_cons,Sem.run_bind,resSem,hp,asAddr,hload2],rfl,fun i x y hx hy=>?_⟩
     cases i with
     | zero=>
      simp at hx hy;subst hx hy;refine ⟨SVR.copy (pl:=fun i=>.box n (off + i)) (by cases v; exact k3) (fun _=>⟨fun _=>rfl,fun i z hz=>?_⟩),copyCells_notOwn _ _⟩
      show w.cell? ⟨g.ι n,off + i,none⟩ = some z;simp [World.cell?,hh];cases hs:v.sh.isAgg with
      | true=>
       rw [(k4 hs).1] at hz;simp [flat,List.getElem?_take] at hz;obtain ⟨_,hz⟩:=hz;exact hz
      | false=>
       obtain ⟨vs,_,hf,hvl,_⟩:=k3;have h5:=k5 hs;have h1:u.oneCell' = true:=by
        have hlt:=(List.getElem?_eq_some_iff.1 h5).1;exact (hcs off _ u (List.getElem?_eq_getElem (by omega)) h5).1
       rw [flat_one h1] at hz;cases i with
       | zero=>simp at hz; subst hz; exact h5
       | succ i=>simp at hz
     | succ i=>simp at hx
    ·cases h
   ·cases h
  ·cases h
 ·cases h
theorem outMvs_sound {N':Nat} {rd:Option Nat} {hN:N' <= lim} {a0 a1:Act} {g0:Gh} {pn:Plan} (hp:pn.ok = true) {ms:List Nat} {d:Dy} (hd:g.dy = dyIn a0 ms d) {l l':List SV} {vs:List Value} (h:outMvs pn l = some l') (hl:vs.length = l.length)
  (hc:∀ (i:Nat) x y,l[i]? = some x -> vs[i]? = some y -> SVR (ctx (E.inner a0 g0 N' rd hN) g a1 w) (fun _=>.slot 0 0) x y /\ x.cs.any Cell.isOwn = false) :
  vs.length = l'.length /\ (∀ x ∈ l',x.cs.any Cell.isOwn = false) /\ ∀ (i:Nat) x y,l'[i]? = some x -> vs[i]? = some y -> ∃ pl,SVR (ctx E (downG pn g d) a0 w) pl x y:=by
 unfold outMvs at h;split at h
 ·rename_i v;split at h
  ·rename_i x hx;injection h with h;subst h;unfold outMv at hx;split at hx
   ·rename_i hfar;injection hx with hx;subst hx
    match vs,hl with
    | [u],_=>
     obtain ⟨hv,hno⟩:=hc 0 v u rfl rfl
     have hd2:=SVR.down (E:=E) (a:=a0) (pl':=fun _=>(Place.slot 0 0).ren downN pn.dn) hp hd hv hfar (fun _=>rfl) (fun i y hy ho=>by
      rw [List.any_eq_false] at hno
      exact absurd ho (hno y (List.mem_of_getElem? hy)))
     refine ⟨rfl,fun x hx=>?_,fun i x y hx hy=>?_⟩
     ·rw [List.mem_singleton.1 hx];exact notOwn_ren (x:=v) hno
     ·cases i with
      | zero=>
       simp at hx hy;subst hx; subst hy;exact ⟨_,hd2⟩
      | succ i=>simp at hx
   ·cases hx
  ·cases h
 ·cases h
structure InlF.Ok (P:Program) (q:InlF):Prop where
 f:∃ fn:Func,P.funcs[q.fn]? = some fn /\ (fn.name == "runtime.NumGoroutine") = false /\ fn.body = some q.c /\ fn.ntmps = q.N /\ fn.results.toList = q.rs
 hlim:Nat.ble q.N lim = true
 segs:SegsOk P q.N q.c q.G
theorem inlRun_ok {ρ:Type} {I:Inl ρ} (hT:∀ e ∈ T,Ent.Ok P e) (hmo:P.follows .mixedOrders = true) (hI:InlsOk P I) {q:InlF} (hq:q.Ok P) (d:Nat):InlOk P q.fn (inlRun T P I q d):=by
 obtain ⟨⟨fn,hf,hn,hb,hNN,hrs⟩,hlim,hG⟩:=hq;refine ⟨fun as w=>?_,fun E s args K y hE h rd a w g vs hr htm ⟨hl,hv⟩=>?_⟩
 ·have h1:fn.name ≠ "runtime.NumGoroutine":=by simpa using hn
  simp [callFunc,hf,h1,hb,mark]
 ·unfold inlRun at h;split at h
  ·rename_i hle;have hle:=Nat.le_of_ble_eq_true hle;have hN:q.N <= lim:=Nat.le_of_ble_eq_true hlim;have hsz:(vs.toArray ++ Array.replicate (fn.ntmps - vs.toArray.size) undef).size = q.N:=by simp; omega
   have hget:∀ t,t < vs.length -> (vs.toArray ++ Array.replicate (fn.ntmps - vs.toArray.size) undef).getD t undef = vs[t]?.getD undef:=fun t ht=>by
    rw [Array.getD_eq_getD_getElem?,Array.getElem?_append_left (by simpa using ht)]
    simp
   have hEi:(E.inner a g q.N none hN).Ok P:=⟨hE.inner hr.li htm,Env.Rd.inner (fun l hl=>by cases hl),by show (if lim < sh then none else E.lps (lim - sh)) = none; rw [if_pos lim_sh]⟩
   have hR:=Rel.enter (a':={ tmps:=vs.toArray ++ Array.replicate (fn.ntmps - vs.toArray.size) undef,defers:=[] }) (N:=q.N) (rd:=none) (hN:=hN) hr hl hle hv hsz rfl hget;have hw:=ev_sound hT (hI.mvd (Nat.ble 1000 q.U)) (E:=E.inner a g q.N none hN) hEi hmo rfl ⟨fn,hf,hb,hNN⟩ hG q.c 1 _ _ y .root h _ w _ hR;have hc:CallsIn (Fr none) 9 P q.fn vs.toArray w (Back E a K y):=by
    refine callsIn_of_wp_marks hf hb trivial (wpIn_mono hw fun e a1 w1 hq=>?_)
    obtain ⟨s',g1,hq,hR1⟩:=hq;have go:finAll P (Nat.ble 1000 q.U) q.rs d K s' = some y -> LeavesInM (Fr none) 9 P fn a1.tmps (Back E a K y) a1.defers .returning w1:=fun hgo=>by
     refine marks_out hEi.rd rfl _ _ _ _ rfl hR1 fun w' g' hR'=>?_
     unfold finAll at hgo;split at hgo
     ·unfold finMv at hgo;split at hgo
      ·rename_i l hl1;split at hgo
       ·rename_i hpl;split at hgo
        ·rename_i l' hl2;split at hgo
         ·rename_i v hj;obtain ⟨dy,ms,j1,j2,j3,j4,j5,j6⟩:=hR'.dyn;obtain ⟨vs',er,hlv,hcv⟩:=resMv_sound hl1 hR';have hrun:=results_run (P:=P) (w:=w') (fn:=fn) (by rw [hrs]; exact er)
          obtain ⟨b1,b2,b3⟩:=outMvs_sound (E:=E) (a0:=a) hpl j6 hl2 hlv hcv;obtain ⟨c1,c2⟩:=joinIn_sound hj b1 b3 b2;exact ⟨_,hrun,_,v,_,downG (planOf d s' l) g' dy,rfl,hgo,hR'.leave hpl j6 j1 (fun D hD=>(j5 D hD).2) hr.size (by rw [j2]; exact hr.defers) hr.li,c2,c1⟩
         ·cases hgo
        ·cases hgo
       ·cases hgo
      ·cases hgo
     ·unfold finIn at hgo;split at hgo
      ·rename_i l hl1;split at hgo
       ·rename_i hpl;split at hgo
        ·rename_i l' hl2;split at hgo
         ·rename_i v hj;obtain ⟨dy,ms,j1,j2,j3,j4,j5,j6⟩:=hR'.dyn;obtain ⟨vs',er,hlv,hcv⟩:=resOf_sound _ l hl1 hR';have hrun:=results_run (P:=P) (w:=w') (fn:=fn) (by rw [hrs]; exact er)
          obtain ⟨b1,b2,b3⟩:=outSVs_sound (E:=E) (a0:=a) hpl j6 hl2 hlv hcv;obtain ⟨c1,c2⟩:=joinIn_sound hj b1 b3 b2;exact ⟨_,hrun,_,v,_,downG (planOf d s' l) g' dy,rfl,hgo,hR'.leave hpl j6 j1 (fun D hD=>(j5 D hD).2) hr.size (by rw [j2]; exact hr.defers) hr.li,c2,c1⟩
         ·cases hgo
        ·cases hgo
       ·cases hgo
      ·cases hgo
    cases e with
    | normal=>exact go hq
    | ret=>exact go hq
    | _=>cases hq
   exact ⟨trivial,hc.2⟩
  ·cases h
theorem recAt_busy (r:Loop):{ recAt r 0 with state:=.busy } = recAt r 1:=by simp [recAt]
theorem onlyN_some {ρ:Type} {e:Exit} {k:Option ρ} {y:ρ} (h:onlyN e k = some y):e = .normal /\ k = some y:=by
 cases e with
 | normal=>exact ⟨rfl,h⟩
 | _=>cases h
theorem roundMid_some {ρ:Type} {s:St} {n:Nat} {k:Nat -> Nat -> Option ρ} {y:ρ} (h:roundMid s n k = some y):∃ fn p,s.loopAt n = some (fn,p) /\ k fn p = some y:=by
 unfold roundMid at h;split at h
 ·rename_i fn p hs;exact ⟨fn,p,hs,h⟩
 ·cases h
theorem roundEnd_some {ρ:Type} {K:SV -> St -> Option ρ} {n fn p:Nat} {pl:Plan} {s:St} {e:Exit} {y:ρ} (h:roundEnd K n fn p pl s e = some y):∃ v c,codeOf e = some (v,c) /\ pl.ok = true /\ K (one (.c (.bool v))) ((s.setLp n c fn p).down pl) = some y:=by
 unfold roundEnd at h;split at h
 ·rename_i v c hc;split at h
  ·rename_i hp;exact ⟨v,c,hc,hp,h⟩
  ·cases h
 ·cases h
set_option maxRecDepth 20000 in
theorem ylRun_ok {ρ:Type} {I:Inl ρ} (hT:∀ e ∈ T,Ent.Ok P e) (hmo:P.follows .mixedOrders = true) (hI:InlsOk P I) {q:InlF} (hq:q.Ok P) (n p:Nat):YlOk P n q.fn p (ylRun T P I q n p):=by
 obtain ⟨⟨fn,hf,hn,hb,hNN,hrs⟩,hlim,hG⟩:=hq;intro E s args K y hE hno h rd a w g vs x hr hx hxf hxp ⟨hl,hv⟩;obtain ⟨m1,m2,m3,fn2,c0,fo,m4,m5,m6,m7⟩:=hE.lp n x hx;rw [hxf,hf] at m4;injection m4 with m4;subst m4;rw [hb] at m5;injection m5 with m5;subst m5;rw [hxp] at m7;have hsn:sh <= n:=by
  refine Nat.le_of_not_lt fun hlt=>?_
  rw [Nat.mod_eq_of_lt hlt] at m1;rw [m1,hno] at hx;cases hx
 have hN:q.N <= lim:=Nat.le_of_ble_eq_true hlim;unfold ylRun at h;split at h
 ·rename_i f0 ps as b hca;have hcat:cAt q.c 400 p = some (.rangeFunc f0 ps as b):=by
   unfold codeAt at hca;cases hcc:cAt q.c 400 p with
   | none=>rw [hcc] at hca; cases hca
   | some c'=>rw [hcc] at hca; rw [<- hca]; rfl
  have he:=m7.is hcat;injection he with he0 he1 he2 he3;split at h
  ·rename_i hck;rw [Bool.and_eq_true,Bool.and_eq_true] at hck;have hnd:=nodupB_sound hck.1;have hpa:=Nat.eq_of_beq_eq_true hck.2.1;have hpN:∀ t ∈ ps.toList,t < q.N:=fun t ht=>by
    have:=List.all_eq_true.1 hck.2.2 t ht;exact Nat.le_of_ble_eq_true this
   refine ⟨by rw [he1,hl,hpa],?_⟩
   have hNx:x.rc.tmps.size = q.N:=by rw [<- m6,hNN]
   let ar:Act:={ tmps:=(ps.toList.zip vs).foldl (fun tm (q:Nat × Value)=>tm.setIfInBounds q.1 q.2) x.rc.tmps,defers:=[] }
   have har:(x.rc.params.zip vs.toArray).foldl (fun tm (q:Nat × Value)=>tm.setIfInBounds q.1 q.2) x.rc.tmps = ar.tmps:=by
    rw [he1];simp only [ar];rw [<- Array.foldl_toList,Array.toList_zip]
   have hEi:(E.inner a g q.N (some x.l) hN).Ok P:=by
    refine ⟨hE.inner hr.li (fun x' hx'=>by rw [hno] at hx'; cases hx'),Env.Rd.inner (fun l hl d hd=>?_),by show (if lim < sh then none else E.lps (lim - sh)) = none; rw [if_pos lim_sh]⟩
    injection hl with hl;subst hl;obtain ⟨c,_,hk⟩:=hE.at hd hx;exact ⟨_,hk⟩
   have hR:=hr.round (a':=ar) hE hx hsn (hN:=hN) hNx (args:=args) (vs:=vs) (ps:=ps.toList) hnd (by simpa using hpa.symm) hl hpN hv rfl rfl
   have hxi:(E.inner a g q.N (some x.l) hN).lps (n + sh) = some x:=by
    show (if n + sh < sh then none else E.lps (n + sh - sh)) = some x
    rw [if_neg (by omega),Nat.add_sub_cancel]
    exact hx
   have hreach:=Reach.of hcat;have hw:=ev_sound hT hI (E:=E.inner a g q.N (some x.l) hN) hEi hmo rfl ⟨fn,hf,hb,hNN⟩ hG as (2 * p) _ _ y hreach.rfL h _ w _ hR;rw [har,he2,he3];refine roundIn_of_wpIn trivial (wpIn_mono (F:=Fr (some x.l)) hw fun e a1 w1 hq=>?_)
   obtain ⟨s1,g1,hq,hR1⟩:=hq;obtain ⟨rfl,hq⟩:=onlyN_some hq;obtain ⟨fn',p',hla,hq⟩:=roundMid_some hq;obtain ⟨_,x',i1,i2,i3,i4,i5⟩:=loopAt_sound hEi.lp hR1 hla;rw [hxi] at i1;injection i1 with i1;subst i1;subst i2; subst i3;obtain ⟨k1,k2⟩:=hR1.ko _ _ i5;refine ⟨_,run_beginRound k1 rfl,?_⟩;rw [recAt_busy];have hR2:=hR1.setLp hEi.lp hxi 1;refine wpIn_mono (F:=Fr (some x.l)) (ev_sound hT hI (E:=E.inner a g q.N (some x.l) hN) hEi hmo rfl ⟨fn,hf,hb,hNN⟩ hG b (2 * p + 1) _ _ y (by exact hreach.rfR) hq _ _ _ hR2) fun e a2 w2 hq2=>?_
   obtain ⟨s2,g2,hq2,hR3⟩:=hq2;obtain ⟨v,c,u1,u2,u3⟩:=roundEnd_some hq2;have fin:∀ (jump:Option Code),v = jump.isNone -> (∀ c0,{ recAt x.rc c0 with state:=if jump.isNone then .ready else .done,pending:=jump } = recAt x.rc c) -> ∃ v' w',(Instr.endRound x.l jump).run P w2 = .ok v' w' /\ Back E a K y (.returned v') w':=fun jump hvj hrec=>by
    generalize planOf 1098 s2 [] = pn at u2 u3;obtain ⟨c2,_,l2⟩:=hEi.lp.at hR3.dyn hxi;obtain ⟨l3,l4⟩:=hR3.ko _ _ l2;refine ⟨_,_,run_endRound jump l3,?_⟩;rw [hrec c2];have hR4:=hR3.setLp hEi.lp hxi c;obtain ⟨dy,ms,j1,j2,j3,j4,j5,j6⟩:=hR4.dyn;refine ⟨_,_,_,downG pn { g2 with dy:=g2.dy.code (n + sh) x c } dy,rfl,u3,hR4.leave u2 j6 j1 (fun D hD=>(j5 D hD).2) hr.size (by rw [j2]; exact hr.defers) hr.li,⟨fun _=>.slot 0 0,SVR.of_one (by rfl) ?_⟩,rfl⟩
    rw [hvj];rfl
   clear hq2;cases e with
   | normal=>
    injection u1 with u1;injection u1 with u4 u5;subst u4; subst u5;exact fin none rfl (fun c0=>by simp [recAt])
   | ret=>
    injection u1 with u1;injection u1 with u4 u5;subst u4; subst u5;exact fin (some .ret) rfl (fun c0=>by simp [recAt])
   | exit i=>
    injection u1 with u1;injection u1 with u4 u5;subst u4; subst u5
    exact fin (some (.exit i)) rfl (fun c0=>by
     simp only [recAt,Option.isNone_some,Bool.false_eq_true,if_false]
     rw [if_neg (by omega),if_neg (by omega),if_neg (by omega),if_neg (by omega),show (((3 + i:Nat):Int) - 3).toNat = i by omega])
   | _=>cases u1
  ·cases h
 ·cases h
theorem inlFind_some:∀ {L:List InlF} {fn:Nat} {q:InlF},inlFind L fn = some q -> q ∈ L /\ q.fn = fn
 | [],fn,q,h=>by cases h
 | q0 :: L,fn,q,h=>by
  simp only [inlFind] at h;split at h
  ·rename_i hb;injection h with h;subst h;exact ⟨by simp,Nat.eq_of_beq_eq_true hb⟩
  ·obtain ⟨h1,h2⟩:=inlFind_some h;exact ⟨by simp [h1],h2⟩
theorem mFind_some:∀ {Ms:List MEnt} {fn:Nat} {m:MEnt},mFind Ms fn = some m -> m ∈ Ms /\ m.fn = fn
 | [],fn,m,h=>by cases h
 | m0 :: L,fn,m,h=>by
  simp only [mFind] at h;split at h
  ·rename_i hb;injection h with h;subst h;exact ⟨by simp,Nat.eq_of_beq_eq_true hb⟩
  ·obtain ⟨h1,h2⟩:=mFind_some h;exact ⟨by simp [h1],h2⟩
theorem inlTab_ok {ρ:Type} (hT:∀ e ∈ T,Ent.Ok P e) (hmo:P.follows .mixedOrders = true) {Ms:List MEnt} (hM:∀ m ∈ Ms,m.Ok P) {W:List NEnt} (hW:∀ q ∈ W,NEnt.Ok P q) {L:List InlF} (hL:∀ q ∈ L,q.Ok P):∀ k,InlsOk (ρ:=ρ) P (inlTab T P Ms W L k)
 | 0=>⟨fun d fn f h=>(by cases h),fun n fn p f h=>(by cases h),fun q h=>by cases h⟩
 | k + 1=>by
  refine ⟨fun d fn f h=>?_,fun n fn p f h=>?_,hW⟩
  ·simp only [inlTab] at h;split at h
   ·rename_i m hm;injection h with h;subst h;obtain ⟨h1,rfl⟩:=mFind_some hm;exact mutWay_ok (hM m h1)
   ·split at h
    ·rename_i q hq;injection h with h;subst h;obtain ⟨h1,rfl⟩:=inlFind_some hq;exact inlRun_ok hT hmo (inlTab_ok hT hmo hM hW hL k) (hL q h1) d
    ·cases h
  ·simp only [inlTab] at h;split at h
   ·rename_i q hq;injection h with h;subst h;obtain ⟨h1,rfl⟩:=inlFind_some hq;exact ylRun_ok hT hmo (inlTab_ok hT hmo hM hW hL k) (hL q h1) n p
   ·cases h
theorem inl_none {ρ:Type}:InlsOk (ρ:=ρ) P inlNone:=⟨fun d fn f h=>(by cases h),fun n fn p f h=>(by cases h),fun q h=>by cases h⟩
theorem inlL_nil:∀ q ∈ ([]:List InlF),q.Ok P:=fun q h=>by cases h
theorem inlL_cons {q:InlF} {L:List InlF} (h:q.Ok P) (hL:∀ q ∈ L,q.Ok P):∀ x ∈ q :: L,x.Ok P:=fun x hx=>by
 rcases List.mem_cons.1 hx with rfl | hx
 ·exact h
 ·exact hL x hx
theorem allM_nil:∀ m ∈ ([]:List MEnt),m.Ok P:=fun m h=>by cases h
theorem allN_nil:∀ q ∈ ([]:List NEnt),NEnt.Ok P q:=fun q h=>by cases h
theorem allN_cons {q:NEnt} {W:List NEnt} (h:NEnt.Ok P q) (hW:∀ q ∈ W,NEnt.Ok P q):∀ x ∈ q :: W,NEnt.Ok P x:=fun x hx=>by
 rcases List.mem_cons.1 hx with rfl | hx
 ·exact h
 ·exact hW x hx
theorem allE_nil:∀ e ∈ ([]:List Ent),Ent.Ok P e:=fun e he=>by cases he
theorem allE_cons {e:Ent} (h:Ent.Ok P e) (ht:∀ e ∈ T,Ent.Ok P e):∀ x ∈ e :: T,Ent.Ok P x:=fun x hx=>by
 rcases List.mem_cons.1 hx with rfl | hx
 ·exact h
 ·exact ht x hx
end
end Go.Proofs.YthnagpmnoncijaaGreat.M
