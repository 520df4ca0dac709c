/- A part of the proof. -/
import Derived.Test.YthnagpmnoncijaaGreatMchT
set_option linter.unusedVariables false
namespace Go.Proofs.YthnagpmnoncijaaGreat.M
open Go Go.RowKit
section
variable {ρ:Type} {P:Program} {E:Env} {s s':St} {a:Act} {w:World} {g:Gh} {o:Oper} {N:Nat} {ops:Array Oper} {r:Option Nat} {T:List Ent}
theorem share_eq (v:SV) (K:SV -> Option ρ):share v K = K v:=by
 unfold share;split <;> rfl
theorem bite_eq (b:Bool) (x y:Option ρ):bite b x y = if b = true then x else y:=rfl
theorem bgd_some {b:Bool} {x:Option ρ} {y:ρ} (h:bgd b x = some y):b = true /\ x = some y:=by
 unfold bgd at h;split at h
 ·exact ⟨by assumption,h⟩
 ·cases h
theorem obind_some {α:Type} {e:Option α} {f:α -> Option ρ} {y:ρ} (h:obind e f = some y):∃ x,e = some x /\ f x = some y:=by
 unfold obind at h;cases e with
 | none=>cases h
 | some x=>exact ⟨x,rfl,h⟩
theorem gd_some {c:Cnd} {x:Option ρ} {y:ρ} (h:gd c x = some y):c.P /\ x = some y:=by
 cases c with
 | ok=>exact ⟨trivial,h⟩
 | chk b=>exact bgd_some h
 | pr p=>cases h
theorem toCs_sound {c:Ctx} {ds:List D} {us:List Value} {pl:Nat -> Place} (h:∀ (i:Nat) d y,ds[i]? = some d -> us[i]? = some y -> y.oneCell' = true /\ DV c.w c.k d y) :
  ∀ (i:Nat) x y,(ds.map D.toC)[i]? = some x -> us[i]? = some y -> y.oneCell' = true /\ CV c (pl i) x y:=fun i x y hx hy=>by
 rw [List.getElem?_map] at hx;cases hd:ds[i]? with
 | none=>rw [hd] at hx; cases hx
 | some d=>
  rw [hd] at hx; injection hx with hx; subst hx
  exact ⟨(h i d y hd hy).1,toC_sound (h i d y hd hy).2⟩
theorem decC_dpv {w:World} {kp k:Nat -> Nat -> Prop} {b off:Nat} {ds:List D} {t:Ty} {x:t.T} {r:List Cell} (h:decC t (ds.map D.toC) = some (x,r)) (hd:DPV w kp k b off ds):DPV w kp k b off (enc t x):=by
 let c:Ctx:=⟨w,k,fun _=>.free,fun _=>0,fun _=>none,k⟩
 let us:List Value:=(List.range ds.length).map fun j=>(w.cell? ⟨b,off + j,none⟩).getD undef
 have hus:∀ (j:Nat) d,ds[j]? = some d -> us[j]? = some ((w.cell? ⟨b,off + j,none⟩).getD undef):=fun j d hj=>by
  have:=(List.getElem?_eq_some_iff.1 hj).1;simp only [us,List.getElem?_map,List.getElem?_range this,Option.map_some]
 obtain ⟨a1,a2,a3⟩:=decC_sound (c:=c) (us:=us) (pl:=fun i=>.slot 0 i) h (by simp [us]) (toCs_sound fun i d y hd' hy=>by
  obtain ⟨z,z1,z2,z3,z4⟩:=hd i d hd';rw [hus i d hd',z1] at hy;injection hy with hy; subst hy
  exact ⟨z3,z4⟩)
 intro j d hj;have hjl:j < ds.length:=by
  have:=(List.getElem?_eq_some_iff.1 hj).1;rw [enc_length] at this;simp at a1; omega
 obtain ⟨z,z1,z2,z3,z4⟩:=hd j _ (List.getElem?_eq_getElem hjl);have hz:=hus j _ (List.getElem?_eq_getElem hjl);rw [z1] at hz;obtain ⟨b1,b2⟩:=a3 j d z hj hz;exact ⟨z,z1,z2,b1,b2⟩
theorem decD_sound {w:World} {k:Nat -> Nat -> Prop}:∀ {a:AT} {dss r:List (List D)} {x:a.T},a.decD dss = some (x,r) -> ∀ (as:List (Nat × Nat)),as.length = dss.length -> (∀ (i:Nat) q ds,as[i]? = some q -> dss[i]? = some ds -> DPV w k k q.1 q.2 ds) ->
  dss.length = (a.dss x).length + r.length /\ r = dss.drop (a.dss x).length /\ ∀ (i:Nat) q ds,as[i]? = some q -> (a.dss x)[i]? = some ds -> DPV w k k q.1 q.2 ds
 | .val g t,dss,r,x,h,as,hl,hd=>by
  cases dss with
  | nil=>simp [AT.decD] at h
  | cons ds dr=>
   simp only [AT.decD] at h;split at h
   ·rename_i x' r' h1;simp at h;obtain ⟨rfl,rfl⟩:=h;refine ⟨by simp [AT.dss]; omega,by simp [AT.dss],fun i q ds' hq hds=>?_⟩
    cases i with
    | zero=>
     simp [AT.dss] at hds; subst hds;exact decC_dpv h1 (hd 0 q ds hq rfl)
    | succ i=>simp [AT.dss] at hds
   ·cases h
 | .dp t,dss,r,x,h,as,hl,hd=>by
  cases dss with
  | nil=>simp [AT.decD] at h
  | cons ds dr=>simp [AT.decD] at h
 | .dpf f c,dss,r,x,h,as,hl,hd=>by
  cases dss with
  | nil=>simp [AT.decD] at h
  | cons ds dr=>simp [AT.decD] at h
 | .own e t,dss,r,x,h,as,hl,hd=>by
  cases dss with
  | nil=>simp [AT.decD] at h
  | cons ds dr=>simp [AT.decD] at h
 | .fn f c,dss,r,x,h,as,hl,hd=>by
  cases dss with
  | nil=>simp [AT.decD] at h
  | cons ds dr=>
   cases ds with
   | nil=>simp [AT.decD] at h
   | cons d dt=>
    cases d with
    | v y=>simp [AT.decD] at h
    | lst t l=>simp [AT.decD] at h
    | clo f' dss'=>
     simp only [AT.decD] at h;split at h
     ·rename_i hf;have hf:=Nat.eq_of_beq_eq_true hf;subst hf;split at h
      ·rename_i y h3;simp at h;obtain ⟨rfl,rfl⟩:=h;refine ⟨by simp [AT.dss]; omega,by simp [AT.dss],fun i q ds hq hds=>?_⟩
       cases i with
       | zero=>
        simp [AT.dss] at hds; subst hds;intro j d hj;cases j with
        | zero=>
         simp at hj; subst hj;obtain ⟨z,z1,z2,z3,z4⟩:=hd 0 q _ hq rfl 0 _ rfl;refine ⟨z,z1,z2,z3,?_⟩;obtain ⟨as',e,hl',hc'⟩:CV ⟨w,k,fun _=>.free,fun _=>0,fun _=>none,k⟩ (.slot 0 0) (.dclo f' dss') z:=DV.fn z4
         obtain ⟨a1,a2,a3⟩:=decD_sound h3 as' hl' hc';have a4:[] = dss'.drop (c.dss y).length:=a2;have hlen:dss'.length = (c.dss y).length:=by simpa using a1
         exact CV.fn (c:=⟨w,k,fun _=>.free,fun _=>0,fun _=>none,k⟩) (p:=.slot 0 0) ⟨as',e,by rw [hl',hlen],a3⟩
        | succ j=>simp at hj
       | succ i=>simp [AT.dss] at hds
      ·cases h
     ·cases h
 | .nil,dss,r,x,h,as,hl,hd=>by
  simp [AT.decD] at h;subst h;simp [AT.dss]
 | .cons a b,dss,r,x,h,as,hl,hd=>by
  simp only [AT.decD] at h;split at h
  ·rename_i x1 r1 h1;split at h
   ·rename_i x2 r2 h2;simp at h;obtain ⟨rfl,rfl⟩:=h;obtain ⟨a1,a2,a3⟩:=decD_sound h1 as hl hd
    obtain ⟨b1,b2,b3⟩:=decD_sound h2 (as.drop (a.dss x1).length) (by rw [a2]; simp [hl]) (fun i q ds hq hds=>by
     rw [a2,List.getElem?_drop] at hds;rw [List.getElem?_drop] at hq
     exact hd _ q ds hq hds)
    refine ⟨by simp [AT.dss]; omega,by simp [AT.dss]; rw [b2,a2,List.drop_drop],fun i q ds hq hds=>?_⟩
    simp only [AT.dss] at hds;by_cases hi:i < (a.dss x1).length
    ·rw [List.getElem?_append_left hi] at hds;exact a3 i q ds hq hds
    ·rw [List.getElem?_append_right (by omega)] at hds
     exact b3 _ q ds (by rw [List.getElem?_drop]; rw [show (a.dss x1).length + (i - (a.dss x1).length) = i from by omega]; exact hq) hds
   ·cases h
  ·cases h
theorem val_weak {g:Bool} {t:Ty} {v:SV} {x:t.T} (hs:v.sh = shapeB g) (h:decC t v.cs = some (x,[])) {c:Ctx} {pl:Nat -> Place} {u:Value} (hv:SVR c pl v u):SVR c pl ⟨shapeB g,(enc t x).map D.toC⟩ u:=by
 obtain ⟨us,e1,e2,e3,e4⟩:=hv;obtain ⟨a1,a2,a3⟩:=decC_sound (c:=c) (us:=us) (pl:=pl) h e3 e4;refine ⟨us,by rw [<- hs]; exact e1,e2,by simp [enc_length]; simp at a1; omega,toCs_sound a3⟩
theorem dec_weak:∀ {a:AT} {l r:List SV} {x:a.T},a.dec l = some (x,r) -> l.length = (a.svs x).length + r.length /\ r = l.drop (a.svs x).length /\
  ∀ (i:Nat) v v',l[i]? = some v -> (a.svs x)[i]? = some v' -> ∀ c pl u,SVR c pl v u -> ∃ pl',SVR c pl' v' u
 | .val g t,l,r,x,h=>by
  cases l with
  | nil=>simp [AT.dec] at h
  | cons v l=>
   have fin:∀ (x':t.T),v.sh = shapeB g -> decC t v.cs = some (x',[]) -> some (x',l) = some (x,r) -> (v :: l).length = ((AT.val g t).svs x).length + r.length /\ r = (v :: l).drop ((AT.val g t).svs x).length /\
     ∀ (i:Nat) v1 v',(v :: l)[i]? = some v1 -> ((AT.val g t).svs x)[i]? = some v' -> ∀ c pl u,SVR c pl v1 u -> ∃ pl',SVR c pl' v' u:=fun x' hs hd he=>by
    simp at he;obtain ⟨rfl,rfl⟩:=he;refine ⟨by simp [AT.svs]; omega,by simp [AT.svs],fun i v1 v' h1 h2 c pl u hv=>?_⟩
    cases i with
    | zero=>
     simp [AT.svs] at h1 h2; subst h1; subst h2;exact ⟨pl,val_weak hs hd hv⟩
    | succ i=>simp [AT.svs] at h2
   simp only [AT.dec] at h;cases hsh:v.sh <;> cases g <;> simp only [hsh] at h <;> try cases h
   ·split at h
    ·rename_i x' hd;exact fin x' hsh hd h
    ·cases h
   ·split at h
    ·rename_i x' hd;exact fin x' hsh hd h
    ·cases h
 | .dp t,l,r,x,h=>by
  cases l with
  | nil=>simp [AT.dec] at h
  | cons v l=>
   simp only [AT.dec] at h;split at h
   ·rename_i ds;split at h
    ·rename_i x' q hd;simp at h;obtain ⟨rfl,rfl⟩:=h;refine ⟨by simp [AT.svs]; omega,by simp [AT.svs],fun i v1 v' h1 h2 c pl u hv=>?_⟩
     cases i with
     | zero=>
      simp [AT.svs] at h1 h2; subst h1; subst h2;obtain ⟨k1,b,off,e,hdp⟩:=hv.one;exact ⟨pl,SVR.of_one k1 ⟨b,off,e,decC_dpv hd hdp⟩⟩
     | succ i=>simp [AT.svs] at h2
    ·cases h
   ·cases h
 | .dpf f cc,l,r,x,h=>by
  cases l with
  | nil=>simp [AT.dec] at h
  | cons v l=>
   simp only [AT.dec] at h;split at h
   ·rename_i f' dss ds';split at h
    ·rename_i hf;have hf:=Nat.eq_of_beq_eq_true hf;subst hf;split at h
     ·rename_i y hd;simp at h;obtain ⟨rfl,rfl⟩:=h;refine ⟨by simp [AT.svs]; omega,by simp [AT.svs],fun i v1 v' h1 h2 c pl u hv=>?_⟩
      cases i with
      | zero=>
       simp [AT.svs] at h1 h2; subst h1; subst h2;obtain ⟨k1,b,off,e,hdp⟩:=hv.one;refine ⟨pl,SVR.of_one k1 ⟨b,off,e,fun j d hj=>?_⟩⟩
       cases j with
       | zero=>
        simp at hj; subst hj;obtain ⟨z,z1,z2,z3,z4⟩:=hdp 0 _ rfl;refine ⟨z,z1,z2,z3,?_⟩;obtain ⟨as',e',hl',hc'⟩:CV ⟨c.w,c.k,fun _=>.free,fun _=>0,fun _=>none,c.k⟩ (.slot 0 0) (.dclo f' dss) z:=DV.fn z4
        obtain ⟨a1,a2,a3⟩:=decD_sound hd as' hl' hc';have hlen:dss.length = (cc.dss y).length:=by simpa using a1
        exact CV.fn (c:=⟨c.w,c.k,fun _=>.free,fun _=>0,fun _=>none,c.k⟩) (p:=.slot 0 0) ⟨as',e',by rw [hl',hlen],a3⟩
       | succ j=>simp at hj
      | succ i=>simp [AT.svs] at h2
     ·cases h
    ·cases h
   ·cases h
 | .own e t,l,r,x,h=>by
  cases l with
  | nil=>simp [AT.dec] at h
  | cons v l=>simp [AT.dec] at h
 | .fn f cc,l,r,x,h=>by
  cases l with
  | nil=>simp [AT.dec] at h
  | cons v l=>
   have fin:∀ (dss:List (List D)),cc.decD dss = some (x,[]) -> r = l -> (∀ c pl u,SVR c pl v u -> u.oneCell' = true /\ CV c (pl 0) (.dclo f dss) u) -> (v :: l).length = ((AT.fn f cc).svs x).length + r.length /\ r = (v :: l).drop ((AT.fn f cc).svs x).length /\
     ∀ (i:Nat) v1 v',(v :: l)[i]? = some v1 -> ((AT.fn f cc).svs x)[i]? = some v' -> ∀ c pl u,SVR c pl v1 u -> ∃ pl',SVR c pl' v' u:=fun dss hd he hc=>by
    subst he;refine ⟨by simp [AT.svs]; omega,by simp [AT.svs],fun i v1 v' h1 h2 c pl u hv=>?_⟩
    cases i with
    | zero=>
     simp [AT.svs] at h1 h2; subst h1; subst h2;obtain ⟨k1,as,e,hl,hdp⟩:=hc c pl u hv;obtain ⟨a1,a2,a3⟩:=decD_sound hd as hl hdp;exact ⟨pl,SVR.of_one k1 ⟨as,e,by rw [hl]; simpa using a1,a3⟩⟩
    | succ i=>simp [AT.svs] at h2
   simp only [AT.dec] at h;split at h
   ·rename_i f';split at h
    ·rename_i hf;have hf:=Nat.eq_of_beq_eq_true hf;subst hf;split at h
     ·rename_i y hd;simp at h;obtain ⟨rfl,rfl⟩:=h;exact fin [] hd rfl fun c pl u hv=>⟨hv.one.1,[],hv.one.2,rfl,by simp⟩
     ·cases h
    ·cases h
   ·rename_i f' dss;split at h
    ·rename_i hf;have hf:=Nat.eq_of_beq_eq_true hf;subst hf;split at h
     ·rename_i y hd;simp at h;obtain ⟨rfl,rfl⟩:=h;exact fin dss hd rfl fun c pl u hv=>hv.one
     ·cases h
    ·cases h
   ·cases h
 | .nil,l,r,x,h=>by
  have:AT.dec .nil l = some ((),l):=by cases l <;> rfl
  rw [this] at h;simp at h;subst h;simp [AT.svs]
 | .cons a b,l,r,x,h=>by
  have:AT.dec (.cons a b) l = (match a.dec l with
  | some (x,r)=>match b.dec r with
   | some (y,r')=>some ((x,y),r')
   | none=>none
  | none=>none):=by cases l <;> rfl
  rw [this] at h;split at h
  ·rename_i x1 r1 h1;split at h
   ·rename_i x2 r2 h2;simp at h;obtain ⟨rfl,rfl⟩:=h;obtain ⟨a1,a2,a3⟩:=dec_weak h1;obtain ⟨b1,b2,b3⟩:=dec_weak h2;refine ⟨by simp [AT.svs]; omega,by simp [AT.svs]; rw [b2,a2,List.drop_drop],fun i v v' hv hv'=>?_⟩
    simp only [AT.svs] at hv';by_cases hi:i < (a.svs x1).length
    ·rw [List.getElem?_append_left hi] at hv';exact a3 i v v' hv hv'
    ·rw [List.getElem?_append_right (by omega)] at hv'
     refine b3 (i - (a.svs x1).length) v v' ?_ hv';rw [a2,List.getElem?_drop,show (a.svs x1).length + (i - (a.svs x1).length) = i from by omega]
     exact hv
   ·cases h
  ·cases h
theorem toC_plain {ds:List D}:(ds.map D.toC).all Cell.plain = true:=by
 rw [List.all_eq_true];intro x hx;obtain ⟨d,_,rfl⟩:=List.mem_map.1 hx;cases d <;> rfl
theorem svs_plain:∀ {a:AT} {x:a.T},a.noOwn = true -> (a.svs x).all (fun v=>v.cs.all Cell.plain) = true
 | .val g t,x,_=>by simp only [AT.svs,List.all_cons,List.all_nil,Bool.and_true]; exact toC_plain
 | .dp t,x,_=>rfl
 | .dpf f c,x,_=>rfl
 | .own e t,x,h=>by simp [AT.noOwn] at h
 | .fn f c,x,_=>rfl
 | .nil,x,_=>rfl
 | .cons a b,x,h=>by
  simp only [AT.noOwn,Bool.and_eq_true] at h;simp only [AT.svs,List.all_append,svs_plain h.1,svs_plain h.2,Bool.and_self]
theorem toC_shown {ds:List D}:(ds.map D.toC).all Cell.shown = true:=by
 rw [List.all_eq_true];intro x hx;obtain ⟨d,_,rfl⟩:=List.mem_map.1 hx;cases d <;> rfl
theorem svs_shown:∀ {a:AT} {x:a.T},a.bare = true -> (a.svs x).all (fun v=>v.cs.all Cell.shown) = true
 | .val g t,x,_=>by simp only [AT.svs,List.all_cons,List.all_nil,Bool.and_true]; exact toC_shown
 | .dp t,x,h=>by simp [AT.bare,AT.noDp] at h
 | .dpf f c,x,h=>by simp [AT.bare,AT.noDp] at h
 | .own e t,x,h=>by simp [AT.bare,AT.noOwn] at h
 | .fn f c,x,_=>rfl
 | .nil,x,_=>rfl
 | .cons a b,x,h=>by
  simp only [AT.bare,AT.noOwn,AT.noDp,Bool.and_eq_true] at h;have h1:a.bare = true:=by simp only [AT.bare,Bool.and_eq_true]; exact ⟨h.1.1,h.2.1⟩
  have h2:b.bare = true:=by simp only [AT.bare,Bool.and_eq_true]; exact ⟨h.1.2,h.2.2⟩
  simp only [AT.svs,List.all_append,svs_shown h1,svs_shown h2,Bool.and_self]
theorem dec_noOwn:∀ {a:AT} {l r:List SV} {x:a.T},a.dec l = some (x,r) -> a.noOwn = true
 | .val g t,l,r,x,_=>rfl
 | .dp t,l,r,x,_=>rfl
 | .dpf f c,l,r,x,_=>rfl
 | .own e t,l,r,x,h=>by cases l <;> simp [AT.dec] at h
 | .fn f c,l,r,x,_=>rfl
 | .nil,l,r,x,_=>rfl
 | .cons a b,l,r,x,h=>by
  have:AT.dec (.cons a b) l = (match a.dec l with
  | some (x,r)=>match b.dec r with
   | some (y,r')=>some ((x,y),r')
   | none=>none
  | none=>none):=by cases l <;> rfl
  rw [this] at h;split at h
  ·rename_i x1 r1 h1;split at h
   ·rename_i x2 r2 h2;simp only [AT.noOwn,dec_noOwn h1,dec_noOwn h2,Bool.and_self]
   ·cases h
  ·cases h
def Ent.Ok (P:Program) (e:Ent):Prop:=∀ y x v,e.F y = some x -> joinRes (e.R.svs x) = some v -> PureC P e.fn (e.A.svs y) v
theorem callE_sound (hT:∀ e ∈ T,Ent.Ok P e) {fn:Nat} {args:List SV} {K:SV -> Option ρ} {y:ρ} (h:callE T fn args K = some y):∃ v,CallOb P fn args v /\ K v = some y:=by
 induction T with
 | nil=>cases h
 | cons e T ih=>
  have ih:=ih (fun e he=>hT e (List.mem_cons_of_mem _ he))
  simp only [callE] at h;split at h
  ·rename_i hf;have hf:=Nat.eq_of_beq_eq_true hf;split at h
   ·rename_i x hd;obtain ⟨z,hz,h⟩:=obind_some h;split at h
    ·rename_i v hv;obtain ⟨a1,a2,a3⟩:=dec_weak hd;refine ⟨v,⟨e.A.svs x,⟨by simpa using a1,a3⟩,svs_plain (dec_noOwn hd),?_⟩,h⟩
     have:=hT e (List.mem_cons_self ..) x z v hz hv;rw [hf] at this;exact this
    ·cases h
   ·exact ih h
  ·exact ih h
def NEnt.Ok (P:Program) (q:NEnt):Prop:=∀ y x,q.F y = some x -> NewC P q.fn (q.A.svs y) q.e (ctsEmb q.C x).1
theorem newE_sound {W:List NEnt} (hW:∀ q ∈ W,NEnt.Ok P q) {fn:Nat} {args:List SV} {K:Nat -> List Cell -> Option ρ} {z:Option ρ} {y:ρ} (h:newE W fn args K = some z) (hz:z = some y):∃ e cs,NewOb P fn args e cs /\ K e cs = some y:=by
 induction W with
 | nil=>cases h
 | cons q W ih=>
  have ih:=ih (fun e he=>hW e (List.mem_cons_of_mem _ he))
  simp only [newE] at h;split at h
  ·rename_i hf;have hf:=Nat.eq_of_beq_eq_true hf;split at h
   ·rename_i x hd;injection h with h;rw [hz] at h;obtain ⟨r,hr,h⟩:=obind_some h;obtain ⟨a1,a2,a3⟩:=dec_weak hd;refine ⟨q.e,_,⟨q.A.svs x,⟨by simpa using a1,a3⟩,svs_plain (dec_noOwn hd),?_⟩,h⟩
    have:=hW q (List.mem_cons_self ..) x r hr;rw [hf] at this;exact this
   ·exact ih h
  ·exact ih h
theorem PureC.known {f:Nat} {args:List SV} {x:Value} (h:PureC P f args ⟨.one,[.v x]⟩):PureC P f args ⟨.one,[.c x]⟩:=
 ⟨h.1,fun rd w k vs hl hv=>(h.2 rd w k vs hl hv).mono fun e w' ⟨u,perm,h1,h2,h3,h4⟩=>⟨u,perm,h1,h2,h3,SVR.of_one h4.one.1 h4.one.2⟩⟩
theorem CallOb.known {f:Nat} {args:List SV} {x:Value} (h:CallOb P f args ⟨.one,[.v x]⟩):CallOb P f args ⟨.one,[.c x]⟩:=
 let ⟨args',h1,h2,h3⟩:=h
 ⟨args',h1,h2,h3.known⟩
theorem boolV_some {v:SV} {b:Bool} (h:v.boolV? = some b):v = ⟨.one,[.v (.bool b)]⟩:=by
 unfold SV.boolV? at h;split at h
 ·injection h with h; subst h; rfl
 ·cases h
theorem fork_some {gg:Bool} {v:SV} {K:SV -> Option ρ} {y:ρ} (h:fork gg v K = some y):K v = some y \/ ∃ b,v = ⟨.one,[.v (.bool b)]⟩ /\ K ⟨.one,[.c (.bool b)]⟩ = some y:=by
 cases gg with
 | false=>exact .inl h
 | true=>
  simp only [fork] at h;split at h
  ·rename_i b hb;cases b with
   | true=>exact .inr ⟨true,boolV_some hb,h⟩
   | false=>exact .inr ⟨false,boolV_some hb,h⟩
  ·exact .inl h
theorem elem_ob {want:Bool} {op:Op} {t:Ty} {q:Option t.T} {e:t.T} {z:SV × Cnd} (h:elemOf P want s op = some ⟨t,q⟩) (he:q = some e) (hv:aval P want (some (.elem t e)) s op = some z):z.2.P:=by
 unfold elemOf at h;split at h
 ·rename_i tt x ix;split at h
  ·rename_i b0 k0 i c el h1 h2 h3;split at h
   ·cases h
   split at h
   ·rename_i ty hty;split at h
    ·rename_i xs hxs;simp only [Option.some.injEq,Sigma.mk.injEq] at h;obtain ⟨rfl,hq⟩:=h;have hq:=eq_of_heq hq;subst hq;simp only [aval,h1,h2,h3,hty] at hv;cases hj:P.info? el with
     | none=>rw [hj] at hv; cases hv
     | some j=>
      rw [hj] at hv;dsimp only at hv;split at hv
      ·rw [hxs] at hv;dsimp only at hv;rw [if_pos rfl] at hv;injection hv with hv; subst hv; exact he
      ·cases hv
    ·cases h
   ·cases h
  ·rename_i k0 i ds len el h1 h2 h3;split at h
   ·rename_i ty hty;split at h
    ·rename_i xs hxs;simp only [Option.some.injEq,Sigma.mk.injEq] at h;obtain ⟨rfl,hq⟩:=h;have hq:=eq_of_heq hq;subst hq;simp only [aval,h1,h2,h3,hty] at hv;cases hj:P.info? el with
     | none=>rw [hj] at hv; cases hv
     | some j=>
      rw [hj] at hv;dsimp only at hv;rw [hxs] at hv;dsimp only at hv;split at hv
      ·injection hv with hv; subst hv; exact he
      ·cases hv
    ·cases h
   ·cases h
  ·cases h
 ·rename_i tt x;split at h
  ·rename_i n off ty len i fo h1;split at h
   ·rename_i e' cs hb;split at h
    ·rename_i xs hxs;simp only [Option.some.injEq,Sigma.mk.injEq] at h;obtain ⟨rfl,hq⟩:=h;have hq:=eq_of_heq hq;subst hq;simp only [aval,h1,hb] at hv;rw [hxs] at hv;dsimp only at hv;split at hv
     ·cases hp:partSV P tt ((enc ty e).map D.toC) fo with
      | none=>rw [hp] at hv; cases hv
      | some z'=>
       rw [hp] at hv;simp only [Option.map_some,Option.some.injEq] at hv;subst hv;exact he
     ·cases hv
    ·cases h
   ·rename_i hb;split at h
    ·rename_i e' l ha;simp only [Option.some.injEq,Sigma.mk.injEq] at h;obtain ⟨rfl,hq⟩:=h;have hq:=eq_of_heq hq;subst hq;simp only [aval,h1,hb,ha] at hv;split at hv
     ·rename_i l2 v2 h3 h4;injection h3 with h3;injection h3 with _ h3;subst h3;split at hv
      ·injection hv with hv; subst hv; exact he
      ·cases hv
     ·cases hv
    ·cases h
  ·rename_i q ty i fo h1;split at h
   ·rename_i c hat;split at h
    ·rename_i xs hxs;simp only [Option.some.injEq,Sigma.mk.injEq] at h;obtain ⟨rfl,hq⟩:=h;have hq:=eq_of_heq hq;subst hq;simp only [aval,h1,hat] at hv;rw [hxs] at hv;cases hown:c.isOwn with
     | false=>rw [hown] at hv; cases hv
     | true=>
      rw [hown] at hv;dsimp only at hv;rw [if_pos (by trivial)] at hv
      cases hp:partSV P tt (((enc ty e).drop fo).map D.toC) 0 with
      | none=>rw [hp] at hv; cases hv
      | some z'=>
       rw [hp] at hv;simp only [Option.map_some,Option.some.injEq] at hv;subst hv;exact he
    ·cases h
   ·cases h
  ·cases h
 ·rename_i tt x ix;split at h
  ·rename_i k0 i cs len el h1 h2 h3;split at h
   ·rename_i ty hty;split at h
    ·rename_i xs hxs;simp only [Option.some.injEq,Sigma.mk.injEq] at h;obtain ⟨rfl,hq⟩:=h;have hq:=eq_of_heq hq;subst hq;simp only [aval,h1,h2,h3,hty] at hv;cases hj:P.info? el with
     | none=>rw [hj] at hv; cases hv
     | some j=>
      rw [hj] at hv;dsimp only at hv;cases hg:isAggT P el with
      | none=>rw [hg] at hv; cases hv
      | some g'=>
       rw [hg] at hv;dsimp only at hv;split at hv
       ·rw [hxs] at hv;dsimp only at hv;cases g' with
        | true=>injection hv with hv; subst hv; exact he
        | false=>
         dsimp only at hv;split at hv
         ·injection hv with hv; subst hv; exact he
         ·cases hv
       ·cases hv
    ·cases h
   ·cases h
  ·rename_i kn k0 i c h1 h2 h3;split at h
   ·rename_i kb bb hval;simp only [Option.some.injEq,Sigma.mk.injEq] at h;obtain ⟨rfl,hq⟩:=h;have hq:=eq_of_heq hq;subst hq;simp only [aval,h1,h2,h3,hval] at hv;injection hv with hv;subst hv;exact he
   ·cases h
  ·cases h
 ·cases h
theorem tail_ob {t:Ty} {q:Option t.T} {e:t.T} {z:St × Cnd} (h:storeElem s o.op = some ⟨t,q⟩) (he:q = some e) (hv:atail P N (some (.elem t e)) s o = some z):z.2.P:=by
 unfold storeElem at h;split at h
 ·rename_i tt ad x hop;split at h
  ·rename_i q' ty i fo h1;split at h
   ·rename_i c hat;split at h
    ·rename_i xs hxs;simp only [Option.some.injEq,Sigma.mk.injEq] at h;obtain ⟨rfl,hq⟩:=h;have hq:=eq_of_heq hq;subst hq;unfold atail at hv;rw [hop] at hv;dsimp only at hv;rw [h1] at hv;cases hx:evalO s x with
     | none=>rw [hx] at hv; cases hv
     | some v=>
      rw [hx] at hv;dsimp only at hv;rw [hat] at hv;cases hj:P.info? tt with
      | none=>rw [hj] at hv; cases hv
      | some j=>
       rw [hj] at hv;dsimp only at hv;split at hv
       ·cases hv
       ·split at hv
        ·rename_i e' xs' hown;have hcc:=ownOf_some hown;subst hcc;have hxx:xs' = xs:=by simpa [Cell.list] using hxs
         subst hxx;split at hv
         rotate_left
         ·cases hv
         split at hv
         ·split at hv
          ·rename_i x1 _;cases hrw:s.rewrite q' (.own e' ty (F.put xs' i x1)) _ with
           | none=>rw [hrw] at hv; cases hv
           | some s1=>
            rw [hrw] at hv;simp only [Option.map_some,Option.some.injEq] at hv;subst hv;exact he
          ·cases hv
         ·cases hv
        ·cases hv
    ·cases h
   ·cases h
  ·cases h
 ·cases h
theorem calmFin_some {want:Bool} {K:SV -> Option (Nat × List Cell) -> Option ρ} {y:ρ} {hh:Option Hint} (h:calmFin P want s o K hh = some y):∃ v ob b,acalm P want hh s o = some (v,ob,b) /\ K v b = some y:=by
 unfold calmFin at h;split at h
 ·rename_i v ob b ha;exact ⟨v,ob,b,ha,h⟩
 ·cases h
theorem calmGen_sound {gg want:Bool} {K:SV -> Option (Nat × List Cell) -> Option ρ} {y:ρ} {op:Op} (hac:∀ hh,(∀ b,hh ≠ some (.bool b)) -> acalm P want hh s o = (aval P want hh s op).map fun q=>(q.1,q.2.P,none))
  (hab:∀ b x c,aval P want none s op = some (⟨.one,[.v (.bool x)]⟩,c) -> acalm P want (some (.bool b)) s o = some (⟨.one,[.c (.bool b)]⟩,c.P /\ x = b,none)) (h:calmGen P gg want s o op K = some y) :
  ∃ hh v ob b,acalm P want hh s o = some (v,ob,b) /\ ob /\ K v b = some y:=by
 unfold calmGen at h;split at h
 ·rename_i t q hel;obtain ⟨e,he,h⟩:=obind_some h;obtain ⟨v,ob,b,h1,h2⟩:=calmFin_some h;refine ⟨_,v,ob,b,h1,?_,h2⟩;rw [hac _ (by simp)] at h1
  cases hav:aval P want (some (.elem t e)) s op with
  | none=>rw [hav] at h1; cases h1
  | some z=>
   rw [hav] at h1;simp only [Option.map_some,Option.some.injEq,Prod.mk.injEq] at h1;obtain ⟨_,rfl,_⟩:=h1;exact elem_ob hel he hav
 ·split at h
  ·rename_i v c hav;obtain ⟨hc,h'⟩:=gd_some h;clear h;have h:=h';clear h';have plainly:K v none = some y -> ∃ hh v ob b,acalm P want hh s o = some (v,ob,b) /\ ob /\ K v b = some y:=fun h=>by
    refine ⟨none,v,c.P,none,?_,hc,h⟩;rw [hac _ (by simp),hav]
    rfl
   unfold calmVal at h;cases gg with
   | true=>
    dsimp only at h;split at h
    ·rename_i x hx;rw [boolV_some hx] at hav;rw [bite_eq] at h;split at h
     ·rename_i hb;subst hb;obtain ⟨v,ob,b,h1,h2⟩:=calmFin_some h;refine ⟨_,v,ob,b,h1,?_,h2⟩;rw [hab _ _ _ hav] at h1;simp only [Option.some.injEq,Prod.mk.injEq] at h1;obtain ⟨_,rfl,_⟩:=h1;exact ⟨hc,by simp⟩
     ·rename_i hb;have hb:x = false:=by simpa using hb
      subst hb;obtain ⟨v,ob,b,h1,h2⟩:=calmFin_some h;refine ⟨_,v,ob,b,h1,?_,h2⟩;rw [hab _ _ _ hav] at h1;simp only [Option.some.injEq,Prod.mk.injEq] at h1;obtain ⟨_,rfl,_⟩:=h1;exact ⟨hc,by simp⟩
    ·exact plainly h
   | false=>
    dsimp only at h;split at h
    ·rw [share_eq] at h; exact plainly h
    ·exact plainly h
  ·cases h
theorem calm_sound (hT:∀ e ∈ T,Ent.Ok P e) {W:List NEnt} (hW:∀ q ∈ W,NEnt.Ok P q) {gg want:Bool} {K:SV -> Option (Nat × List Cell) -> Option ρ} {y:ρ} (h:calm T W P gg want s o K = some y) :
  ∃ hh v ob b,acalm P want hh s o = some (v,ob,b) /\ ob /\ K v b = some y:=by
 have tru:∀ {hh:Option Hint},(∀ v ob b,acalm P want hh s o = some (v,ob,b) -> ob) -> calmFin P want s o K hh = some y -> ∃ hh v ob b,acalm P want hh s o = some (v,ob,b) /\ ob /\ K v b = some y:=fun ht h=>by
  obtain ⟨v,ob,b,h1,h2⟩:=calmFin_some h;exact ⟨_,v,ob,b,h1,ht _ _ _ h1,h2⟩
 unfold calm at h;split at h
 ·rename_i e hop;refine tru (fun v ob b ha=>?_) h
  unfold acalm at ha; rw [hop] at ha; dsimp only at ha;split at ha
  ·simp only [Option.some.injEq,Prod.mk.injEq] at ha; rw [<- ha.2.1]; trivial
  ·split at ha
   ·split at ha
    ·simp only [Option.some.injEq,Prod.mk.injEq] at ha; rw [<- ha.2.1]; trivial
    ·cases ha
   ·cases ha
  ·cases ha
 ·rename_i e hop;refine tru (fun v ob b ha=>?_) h
  unfold acalm at ha; rw [hop] at ha; dsimp only at ha;split at ha
  ·simp only [Option.some.injEq,Prod.mk.injEq] at ha; rw [<- ha.2.1]; trivial
  ·cases ha
 ·rename_i e x hop;refine tru (fun v ob b ha=>?_) h
  unfold acalm at ha; rw [hop] at ha; dsimp only at ha;split at ha
  ·simp only [Option.some.injEq,Prod.mk.injEq] at ha; rw [<- ha.2.1]; trivial
  ·cases ha
 ·rename_i e x hop;refine tru (fun v ob b ha=>?_) h
  unfold acalm at ha; rw [hop] at ha; dsimp only at ha;split at ha
  ·split at ha
   ·cases ha
   ·simp only [Option.some.injEq,Prod.mk.injEq] at ha; rw [<- ha.2.1]; trivial
  ·split at ha
   ·cases ha
   ·simp only [Option.some.injEq,Prod.mk.injEq] at ha; rw [<- ha.2.1]; trivial
  ·cases ha
 ·rename_i t len parts hop;refine tru (fun v ob b ha=>?_) h
  unfold acalm at ha; rw [hop] at ha; dsimp only at ha
  repeat (split at ha <;> try cases ha)
  trivial
 ·rename_i t x y hop;split at h
  ·rename_i e kn k n hu hi;split at h
   ·rename_i j hj;obtain ⟨hok,h⟩:=gd_some h;refine tru (fun v ob b ha=>?_) h
    unfold acalm at ha; rw [hop] at ha; dsimp only at ha;rw [hu,hi] at ha;dsimp only at ha;rw [hj] at ha;split at ha
    ·rename_i j' ty z hj' _ _;injection hj' with hj'
     subst hj';split at ha
     ·split at ha
      ·simp only [Option.some.injEq,Prod.mk.injEq] at ha;rw [<- ha.2.1]; exact hok
      ·cases ha
     ·cases ha
    ·cases ha
   ·cases h
  ·cases h
 ·rename_i c hop;split at h
  ·rename_i f hcal;split at h
   ·rename_i fv hf;split at h
    ·rename_i fn caps b0 as c0 hca hargs;split at h
     ·rename_i z hz;obtain ⟨e,cs,hob,h2⟩:=newE_sound hW hz h;refine tru (fun v' ob b ha=>?_) h2
      unfold acalm at ha;rw [hop] at ha;simp only [hcal] at ha;unfold callW at ha;split at ha
      ·rename_i e' cs' d' he' hd';injection he' with he'
       injection he' with h4 h5;subst h4; subst h5;unfold callN at ha;rw [hf] at ha;simp only [hca,hargs] at ha;split at ha
       ·simp only [Option.map_some,Option.some.injEq,Prod.mk.injEq] at ha;obtain ⟨_,rfl,_⟩:=ha;exact hob
       ·cases ha
      ·rename_i hne;unfold callV at ha;split at ha
       ·rename_i hx _;cases hx
       ·cases ha
     obtain ⟨v,hob,h2⟩:=callE_sound hT h;have fin2:∀ {v:SV},CallOb P fn (as ++ caps) v -> calmFin P want s o K (some (.call v True)) = some y -> ∃ hh v ob b,acalm P want hh s o = some (v,ob,b) /\ ob /\ K v b = some y:=fun {v} hob h=>by
      refine tru (fun v' ob b ha=>?_) h
      unfold acalm at ha;rw [hop] at ha;simp only [hcal] at ha;unfold callW at ha;split at ha
      ·rename_i hx _;cases hx
      unfold callV at ha;rw [hf] at ha;simp only [hca,hargs] at ha;split at ha
      ·simp only [Option.map_some,Option.some.injEq,Prod.mk.injEq] at ha;obtain ⟨rfl,rfl,_⟩:=ha;exact hob
      ·cases ha
     rcases fork_some h2 with h3 | ⟨b,hv,h3⟩
     ·exact fin2 hob h3
     ·subst hv;exact fin2 hob.known h3
    ·cases h
   ·cases h
  ·rename_i hcal;refine calmGen_sound (fun hh hb=>?_) (fun b x c' hav=>?_) h
   ·unfold acalm;rw [hop];dsimp only;split
    ·rename_i f' hf';exact absurd hf' (hcal f')
    ·split
     ·rename_i b; exact absurd rfl (hb b)
     ·rfl
   ·unfold acalm;rw [hop] at hav ⊢;dsimp only;split
    ·rename_i f' hf';exact absurd hf' (hcal f')
    ·rw [hav]
 ·rename_i hop1 hop6 hop7 hop2 hop3 hop5 hop4;refine calmGen_sound (fun hh hb=>?_) (fun b x c' hav=>?_) h
  ·unfold acalm;split
   ·rename_i hx; exact absurd hx (hop1 _)
   ·rename_i hx; exact absurd hx (hop2 _ _)
   ·rename_i hx; exact absurd hx (hop3 _ _ _)
   ·rename_i hx; exact absurd hx (hop6 _)
   ·rename_i hx; exact absurd hx (hop7 _ _)
   ·rename_i hx; exact absurd hx (hop5 _ _ _)
   ·rename_i hx; exact absurd hx (hop4 _)
   ·split
    ·rename_i b; exact absurd rfl (hb b)
    ·rfl
  ·unfold acalm;split
   ·rename_i hx; exact absurd hx (hop1 _)
   ·rename_i hx; exact absurd hx (hop2 _ _)
   ·rename_i hx; exact absurd hx (hop3 _ _ _)
   ·rename_i hx; exact absurd hx (hop6 _)
   ·rename_i hx; exact absurd hx (hop7 _ _)
   ·rename_i hx; exact absurd hx (hop5 _ _ _)
   ·rename_i hx; exact absurd hx (hop4 _)
   ·rw [hav]
end
end Go.Proofs.YthnagpmnoncijaaGreat.M
