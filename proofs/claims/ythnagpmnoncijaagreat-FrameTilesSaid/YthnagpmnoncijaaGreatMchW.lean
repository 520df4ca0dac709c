/- A part of the proof. -/
import Derived.Test.YthnagpmnoncijaaGreatMchVa
set_option linter.unusedVariables false
namespace Go.Proofs.YthnagpmnoncijaaGreat.M
open Go Go.RowKit
section
variable {ρ:Type} {P:Program} {E:Env} {s s':St} {a:Act} {w:World} {g:Gh} {o:Oper} {N U:Nat} {ops:Array Oper} {r:Option Nat} {T:List Ent}
theorem evX_sound {I:Inl ρ} (hT:∀ e ∈ T,Ent.Ok P e) (hI:InlsOk P I) (hE:E.Ok P) (hN:N = E.N) (hb:∀ (i:Nat) o,ops[i]? = some o -> ∀ j ∈ edgesOf o,j < i) (hns:noSel ops = true) {K:St -> Option ρ} {y:ρ}:∀ (n:Nat) (L:List Nat) (s:St),evX T P N I ops n L s (fun s2=>K s2.clean) = some y ->
  Rest P r E ops (fun e s'=>e = .normal /\ K s' = some y) L s
 | 0,L,s,h=>by
  unfold evX at h;split at h
  ·rename_i hr;exact Rest.done hb hr ⟨rfl,h⟩
  ·cases h
 | n + 1,L,s,h=>by
  have notin:∀ {i},i ∈ readyL ops L -> L.contains i = false:=fun {i} hi=>by
   unfold readyL at hi;rw [List.mem_filter,Bool.and_eq_true] at hi;simpa using hi.2.1
  have step:∀ {i o},ops[i]? = some o -> i ∈ readyL ops L -> evT T P N I ops [o] s (fun s'=>evX T P N I ops n (i :: L) s' fun s2=>K s2.clean) = some y -> Goes P r E ops (fun s'=>Rest P r E ops (fun e s'=>e = .normal /\ K s' = some y) (i :: L) s') [o] s:=fun {i o} ho hi h=>
   goes_weak (fun s' hk=>evX_sound hT hI hE hN hb hns n (i :: L) s' hk) _ _ (evT_sound (r:=r) hT hI hE hN [o] s h)
  unfold evX at h;split at h
  ·rename_i hr;exact Rest.done hb hr ⟨rfl,h⟩
  ·rename_i i rr hr;have hne:readyL ops L ≠ []:=by rw [hr]; simp
   split at h
   ·rename_i j hj;have hjl:=List.find?_some hj;have hjm:j ∈ readyL ops L:=by rw [hr]; exact List.mem_of_find?_eq_some hj
    split at h
    ·rename_i o ho;exact Rest.light hb hns ho hjm hjl (step ho hjm h)
    ·cases h
   ·split at h
    ·rename_i o ho _;have him:i ∈ readyL ops L:=by rw [hr]; simp
     refine Rest.all hb hne fun i' hi'=>?_
     rw [hr] at hi';simp at hi';subst hi';exact Rest1.of ho (notin him) (step ho him h)
    ·rename_i j o ho _;have him:i ∈ readyL ops L:=by rw [hr]; simp
     have hjm:j ∈ readyL ops L:=by rw [hr]; simp
     split at h
     ·rename_i o' ho';obtain ⟨h1,h2⟩:=nilE_some h;refine Rest.all hb hne fun i' hi'=>?_
      rw [hr] at hi';simp at hi';rcases hi' with rfl | rfl
      ·exact Rest1.of ho (notin him) (step ho him (h1 rfl))
      ·exact Rest1.of ho' (notin hjm) (step ho' hjm h2)
     ·cases h
    ·cases h
theorem evY_sound {I:Inl ρ} (hT:∀ e ∈ T,Ent.Ok P e) (hI:InlsOk P I) (hE:E.Ok P) (hN:N = E.N) {b L:List Nat} {K:St -> Option ρ} {y:ρ}:∀ (l:List Nat) (s:St),evY T P N I ops b L l s K = some y -> LGoes P r E ops b L (fun s'=>K s' = some y) l s
 | [],s,h=>h
 | i :: l,s,h=>by
  simp only [evY] at h;split at h
  ·rename_i o ho;refine ⟨o,ho,goes_weak (fun s' hk=>?_) _ _ (evT_sound (r:=r) hT hI hE hN [o] s h)⟩
   split at hk
   ·rename_i c hc;obtain ⟨h1,h2⟩:=gd_some hk;exact ⟨⟨c,hc,h1⟩,evY_sound hT hI hE hN l s' h2⟩
   ·cases hk
  ·cases h
theorem lgoes_weak {b L:List Nat} {Kp Kp':St -> Prop} (h:∀ s,Kp s -> Kp' s):∀ (l:List Nat) (s:St),LGoes P r E ops b L Kp l s -> LGoes P r E ops b L Kp' l s
 | [],s,hk=>h s hk
 | i :: l,s,⟨o,ho,hg⟩=>⟨o,ho,goes_weak (fun s' hk=>⟨hk.1,lgoes_weak h l s' hk.2⟩) _ _ hg⟩
theorem evR2_sound {I:Inl ρ} (hT:∀ e ∈ T,Ent.Ok P e) (hI:InlsOk P I) (hE:E.Ok P) (hmo:P.follows .mixedOrders = true) (hN:N = E.N) {id:Nat} {K:St -> Option ρ} {y:ρ} {hs:List (Nat × Hint)} {tl:List Nat} {rs:List (Option Res)} {s1:St} {ob1:Prop} (ha:arunC P N ops hs tl 0 ops.toList s = some (rs,s1,ob1)) (hob1:ob1) (hd:drawOk ops rs s (befs ops.toList []) = true)
  (h:evR2 T P N I ops s1 rs K = some y):AWp P r E (.region id ops true) s (fun e s'=>e = .normal /\ K s' = some y):=by
 unfold evR2 at h;split at h
 ·rename_i hto;exact AWp.draw (R:=fun e s'=>e = .normal /\ K s' = some y) (tl:=tl) (hints:=hs) hN hmo ha hob1 hd hto (goes_weak (fun s' hk=>⟨rfl,hk⟩) _ _ (evT_sound (r:=r) hT hI hE hN _ s1 h))
 ·split at h
  ·rename_i hlo;exact AWp.draw3 (R:=fun e s'=>e = .normal /\ K s' = some y) (tl:=tl) (hints:=hs) hN hmo ha hob1 hd hlo (lgoes_weak (fun s' hk=>⟨rfl,hk⟩) _ _ (evY_sound (r:=r) hT hI hE hN _ s1 h))
  split at h
  ·rename_i htu;have hdf:=DF.of hd;unfold evLate at h;split at h
   ·rename_i hu;rw [hu] at htu;exact AWp.draw2 (R:=fun e s'=>e = .normal /\ K s' = some y) (tl:=tl) (hints:=hs) (u:=none) hN hmo ha hob1 hd htu (evX_sound hT hI hE hN hdf.edge hdf.nosel _ _ _ h) (fun k hk=>by cases hk)
   ·rename_i k hu;rw [hu] at htu;split at h
    ·rename_i d i h1 h2 h3;rw [Bool.and_eq_true] at h1;split at h
     ·rename_i o ho;obtain ⟨e1,e2⟩:=nilE_some h;refine AWp.draw2 (R:=fun e s'=>e = .normal /\ K s' = some y) (tl:=tl) (hints:=hs) (u:=some k) hN hmo ha hob1 hd htu (evX_sound hT hI hE hN hdf.edge hdf.nosel _ _ _ (e1 rfl)) (fun k' hk'=>?_)
      injection hk' with hk'
      subst hk';refine ⟨h1.2,Nat.le_of_ble_eq_true h1.1,fun d' hd' i' hi' hci'=>?_⟩
      rw [h2] at hd';injection hd' with hd'
      subst hd';have hm:i' ∈ (readyL ops (calL ops rs (some k))).filter fun i=>!cal rs i:=List.mem_filter.2 ⟨hi',by simp [hci']⟩
      rw [hu] at h3;rw [h3] at hm;simp at hm;subst hm;have notin:(calL ops rs (some k)).contains i' = false:=by
       unfold readyL at hi';rw [List.mem_filter,Bool.and_eq_true] at hi';simpa using hi'.2.1
      rw [hu] at e2;exact Rest1.of ho notin (goes_weak (fun s' hk=>evX_sound hT hI hE hN hdf.edge hdf.nosel _ _ _ hk) _ _ (evT_sound (r:=r) hT hI hE hN [o] _ e2))
     ·cases h
    ·cases h
  ·cases h
theorem evR_sound {I:Inl ρ} (hT:∀ e ∈ T,Ent.Ok P e) (hI:InlsOk P I) (hE:E.Ok P) (hmo:P.follows .mixedOrders = true) (hN:N = E.N) {id:Nat} {draw:Bool} {K:St -> Option ρ} {y:ρ} (h:evR T P N I draw ops s K = some y):AWp P r E (.region id ops draw) s (fun e s'=>e = .normal /\ K s' = some y):=by
 cases draw with
 | false=>exact AWp.region (R:=fun e s'=>e = .normal /\ K s' = some y) (goes_weak (fun s' hk=>⟨rfl,hk⟩) _ _ (evT_sound (r:=r) hT hI hE hN ops.toList s h))
 | true=>
  simp only [evR] at h;obtain ⟨hs,tl,rs,s1,ob1,_,_,ha,hob1,h⟩:=evC_sound hT hI.nw ops.toList 0 [] s [] (by simp) h
  rw [List.nil_append] at h;split at h
  ·rename_i hd;exact evR2_sound hT hI hE hmo hN ha hob1 hd h
  ·split at h
   ·obtain ⟨hs,tl,rs,s1,ob1,_,_,ha,hob1,h⟩:=evC_sound hT hI.nw ops.toList 0 [] s [] (by simp) h
    rw [List.nil_append] at h;split at h
    ·rename_i hd;exact evR2_sound hT hI hE hmo hN ha hob1 hd h
    ·cases h
   ·cases h
theorem ct_sound {R:Type} {c:CT} {cs r:List Cell} {f0:R -> c.add R} {us:List Value} {pl:Nat -> Place} {cc:Ctx} (h:c.dec cs = some (f0,r)) (hl:us.length = cs.length) (hc:∀ (i:Nat) x y,cs[i]? = some x -> us[i]? = some y -> y.oneCell' = true /\ CV cc (pl i) x y) :
  ∃ l,(∀ y,c.emb (f0 y) = (l,y)) /\ cs.length = l.length + r.length /\ r = cs.drop l.length /\ (∀ y ∈ l,y.target = none) /\ ∀ (i:Nat) z y,l[i]? = some z -> us[i]? = some y -> y.oneCell' = true /\ CV cc (pl i) z y:=by
 have single:∀ {z z':Cell} {rest:List Cell},cs = z :: rest -> r = rest -> (∀ y,c.emb (f0 y) = ([z'],y)) -> z'.target = none -> (∀ u,u.oneCell' = true -> CV cc (pl 0) z u -> CV cc (pl 0) z' u) ->
   ∃ l,(∀ y,c.emb (f0 y) = (l,y)) /\ cs.length = l.length + r.length /\ r = cs.drop l.length /\ (∀ y ∈ l,y.target = none) /\ ∀ (i:Nat) z y,l[i]? = some z -> us[i]? = some y -> y.oneCell' = true /\ CV cc (pl i) z y:=fun {z z' rest} h1 h2 h3 h4 h5=>by
  subst h1; subst h2;refine ⟨[z'],h3,by simp; omega,by simp,by simpa using h4,fun i q y hq hy=>?_⟩
  cases i with
  | zero=>
   simp at hq; subst hq;obtain ⟨k1,k2⟩:=hc 0 z y rfl hy;exact ⟨k1,h5 y k1 k2⟩
  | succ i=>simp at hq
 cases c with
 | dat t=>
  simp only [CT.dec] at h;split at h
  ·rename_i x r' h1;simp only [Option.some.injEq,Prod.mk.injEq] at h;obtain ⟨rfl,rfl⟩:=h;obtain ⟨a1,a2,a3⟩:=decC_sound h1 hl hc;refine ⟨(enc t x).map D.toC,fun y=>rfl,by simp [enc_length]; omega,by simp [enc_length]; exact a2,fun y hy=>?_,toCs_sound a3⟩
   obtain ⟨d,_,rfl⟩:=List.mem_map.1 hy;cases d <;> rfl
  ·cases h
 | own e t=>
  cases cs with
  | nil=>simp [CT.dec] at h
  | cons z rest=>
   simp only [CT.dec] at h;split at h
   ·simp only [Option.some.injEq,Prod.mk.injEq] at h;obtain ⟨rfl,rfl⟩:=h;refine single (z':=.own e t []) rfl rfl (fun _=>rfl) rfl fun u _ hu=>?_
    have hu:u = .slice none 0 0:=hu;subst hu;exact ⟨⟨[],by simp,.inl ⟨rfl,rfl⟩⟩,DV.emp t none 0 (Nat.zero_le _),fun b hb=>by simp [Value.ownBlock] at hb⟩
   ·split at h
    ·rename_i ht;subst ht;split at h
     ·rename_i he;have he:=Nat.eq_of_beq_eq_true he;subst he;simp only [Option.some.injEq,Prod.mk.injEq] at h;obtain ⟨rfl,rfl⟩:=h;exact single rfl rfl (fun _=>rfl) rfl fun u _ hu=>hu
     ·cases h
    ·cases h
   ·cases h
 | ptr n off=>
  cases cs with
  | nil=>simp [CT.dec] at h
  | cons z rest=>
   cases z <;> simp only [CT.dec] at h <;> try cases h
   rename_i n' off';split at h
   ·rename_i hb;rw [Bool.and_eq_true] at hb;have h1:=Nat.eq_of_beq_eq_true hb.1;have h2:=Nat.eq_of_beq_eq_true hb.2;subst h1; subst h2;simp only [Option.some.injEq,Prod.mk.injEq] at h;obtain ⟨rfl,rfl⟩:=h;exact single rfl rfl (fun _=>rfl) rfl fun u _ hu=>hu
   ·cases h
 | arr=>
  cases cs with
  | nil=>simp [CT.dec] at h
  | cons z rest=>
   cases z <;> simp only [CT.dec] at h <;> try cases h
   exact single rfl rfl (fun _=>rfl) rfl fun u _ hu=>hu
 | imm n=>
  cases cs with
  | nil=>simp [CT.dec] at h
  | cons z rest=>
   simp only [CT.dec] at h;split at h
   ·rename_i hb;simp only [Option.some.injEq,Prod.mk.injEq] at h;obtain ⟨rfl,rfl⟩:=h;refine single (z':=.imm n) rfl rfl (fun _=>rfl) rfl fun u _ hu=>?_
    match n,hb with
    | n + 2,_=>trivial
    | 0,hb=>cases z <;> simp [Cell.isImm] at hb; subst hb; exact hu
    | 1,hb=>cases z <;> simp [Cell.isImm] at hb; subst hb; exact hu
   ·cases h
 | yld n=>
  cases cs with
  | nil=>simp [CT.dec] at h
  | cons z rest=>
   cases z <;> simp only [CT.dec] at h <;> try cases h
   split at h
   ·rename_i hb;have h1:=Nat.eq_of_beq_eq_true hb;subst h1;simp only [Option.some.injEq,Prod.mk.injEq] at h;obtain ⟨rfl,rfl⟩:=h;exact single rfl rfl (fun _=>rfl) rfl fun u _ hu=>hu
   ·cases h
 | clo f caps=>
  cases cs with
  | nil=>simp [CT.dec] at h
  | cons z rest=>
   cases z <;> simp only [CT.dec] at h <;> try cases h
   rename_i f' caps';split at h
   ·rename_i hb;rw [Bool.and_eq_true] at hb;have h1:=Nat.eq_of_beq_eq_true hb.1;have h2:caps' = caps:=by
     have key:∀ l l':List (Nat × Nat),eqCaps l l' = true -> l = l':=by
      intro l;induction l with
      | nil=>intro l' h; cases l' with
       | nil=>rfl
       | cons q l'=>simp [eqCaps] at h
      | cons q l ih=>
       obtain ⟨a,b⟩:=q;intro l' h;cases l' with
       | nil=>simp [eqCaps] at h
       | cons q' l'=>
        obtain ⟨a',b'⟩:=q';simp only [eqCaps,Bool.and_eq_true] at h;rw [Nat.eq_of_beq_eq_true h.1,Nat.eq_of_beq_eq_true h.2.1,ih l' h.2.2]
     exact key _ _ hb.2
    subst h1; subst h2;simp only [Option.some.injEq,Prod.mk.injEq] at h;obtain ⟨rfl,rfl⟩:=h;exact single rfl rfl (fun _=>rfl) rfl fun u _ hu=>hu
   ·cases h
 | kint k n=>
  cases cs with
  | nil=>simp [CT.dec] at h
  | cons z rest=>
   simp only [CT.dec] at h;split at h
   ·rename_i k' n' hv;split at h
    ·rename_i hb;obtain ⟨rfl,rfl⟩:=hb;simp only [Option.some.injEq,Prod.mk.injEq] at h;obtain ⟨rfl,rfl⟩:=h;exact single rfl rfl (fun _=>rfl) rfl fun u _ hu=>Cell.val_sound hu hv
    ·cases h
   ·cases h
 | kbool b=>
  cases cs with
  | nil=>simp [CT.dec] at h
  | cons z rest=>
   simp only [CT.dec] at h;split at h
   ·rename_i b' hv;split at h
    ·rename_i hb;subst hb;simp only [Option.some.injEq,Prod.mk.injEq] at h;obtain ⟨rfl,rfl⟩:=h;exact single rfl rfl (fun _=>rfl) rfl fun u _ hu=>Cell.val_sound hu hv
    ·cases h
   ·cases h
 | fn f at'=>
  cases cs with
  | nil=>simp [CT.dec] at h
  | cons z rest=>
   cases z <;> simp only [CT.dec] at h <;> try cases h
   rename_i f' dss;split at h
   ·rename_i hf;have hf:=Nat.eq_of_beq_eq_true hf;subst hf;split at h
    ·rename_i y hd;simp only [Option.some.injEq,Prod.mk.injEq] at h;obtain ⟨rfl,rfl⟩:=h;refine single (z':=.dclo f' (at'.dss y)) rfl rfl (fun _=>rfl) rfl fun u _ hu=>?_
     obtain ⟨as,e,hl',hdp⟩:=hu;obtain ⟨a1,a2,a3⟩:=decD_sound hd as hl' hdp;exact ⟨as,e,by rw [hl']; simpa using a1,a3⟩
    ·cases h
   ·cases h
 | dp t=>
  cases cs with
  | nil=>simp [CT.dec] at h
  | cons z rest=>
   cases z <;> simp only [CT.dec] at h <;> try cases h
   rename_i ds;split at h
   ·rename_i y q hd;simp only [Option.some.injEq,Prod.mk.injEq] at h;obtain ⟨rfl,rfl⟩:=h;refine single (z':=.dp (enc t y)) rfl rfl (fun _=>rfl) rfl fun u _ hu=>?_
    obtain ⟨b,off,e,hdp⟩:=hu;exact ⟨b,off,e,decC_dpv hd hdp⟩
   ·cases h
 | nils=>
  cases cs with
  | nil=>simp [CT.dec] at h
  | cons z rest=>
   cases z <;> simp only [CT.dec] at h <;> try cases h
   exact single rfl rfl (fun _=>rfl) rfl fun u _ hu=>hu
theorem cts_sound {R:Type}:∀ {l:List CT} {cs:List Cell} {f0:R -> ctsT l R} {us:List Value} {pl:Nat -> Place} {cc:Ctx},ctsDec l cs = some f0 -> us.length = cs.length -> (∀ (i:Nat) x y,cs[i]? = some x -> us[i]? = some y -> y.oneCell' = true /\ CV cc (pl i) x y) ->
  ∃ k,(∀ y,ctsEmb l (f0 y) = (k,y)) /\ cs.length = k.length /\ (∀ y ∈ k,y.target = none) /\ ∀ (i:Nat) z y,k[i]? = some z -> us[i]? = some y -> y.oneCell' = true /\ CV cc (pl i) z y
 | [],cs,f0,us,pl,cc,h,hl,hc=>by
  cases cs with
  | nil=>
   simp only [ctsDec,Option.some.injEq] at h;subst h;exact ⟨[],fun y=>rfl,rfl,by simp,by simp⟩
  | cons z r=>simp [ctsDec] at h
 | c :: l,cs,f0,us,pl,cc,h,hl,hc=>by
  simp only [ctsDec] at h;split at h
  ·rename_i f r h1;split at h
   ·rename_i hh h2;simp only [Option.some.injEq] at h;subst h;obtain ⟨k1,a0,a1,a2,a3,a4⟩:=ct_sound h1 hl hc
    obtain ⟨k2,b0,b1,b2,b3⟩:=cts_sound (us:=us.drop k1.length) (pl:=fun i=>pl (k1.length + i)) h2 (by rw [List.length_drop]; omega) (fun i x y hx hy=>by
     rw [a2,List.getElem?_drop] at hx;rw [List.getElem?_drop] at hy
     exact hc _ x y hx hy)
    refine ⟨k1 ++ k2,fun y=>by simp only [ctsEmb,a0,b0],by simp; omega,fun y hy=>?_,fun i z y hz hy=>?_⟩
    ·rcases List.mem_append.1 hy with hy | hy
     ·exact a3 y hy
     ·exact b2 y hy
    ·by_cases hi:i < k1.length
     ·rw [List.getElem?_append_left hi] at hz;exact a4 i z y hz hy
     ·rw [List.getElem?_append_right (by omega)] at hz
      have hb:=b3 (i - k1.length) z y hz (by rw [List.getElem?_drop,show k1.length + (i - k1.length) = i from by omega]; exact hy)
      have he:k1.length + (i - k1.length) = i:=by omega
      simp only [he] at hb;exact hb
   ·cases h
  ·cases h
def VT.sn:VT -> List Nat
 | []=>[]
 | .slot t _ _ :: r=>t :: VT.sn r
 | .box _ _ _ :: r=>VT.sn r
def VT.bn:VT -> List Nat
 | []=>[]
 | .slot _ _ _ :: r=>VT.bn r
 | .box n _ _ :: r=>n :: VT.bn r
theorem decSlot_sound {t:Nat} {gg:Bool} {cs:List CT} {R:Type} {f0:R -> ctsT cs R} {v:SV} {E:Env} {a:Act} {w:World} {g:Gh} (hr:Rel E s a w g) (hv:s.slots.lookup t = some v) (hsh:v.sh = shapeB gg) (h:ctsDec cs v.cs = some f0) :
  ∃ k,(∀ y,ctsEmb cs (f0 y) = (k,y)) /\ SVR (ctx E g a w) (.slot t) ⟨shapeB gg,k⟩ (tv g.dy.out a t):=by
 obtain ⟨us,e1,e2,e3,e4⟩:=hr.slots t v hv;obtain ⟨k,b0,b1,b2,b3⟩:=cts_sound h e3 e4;exact ⟨k,b0,us,by rw [<- hsh]; exact e1,e2,by rw [e3,b1],b3⟩
theorem boxKind_sound {R:Type} {cc:Ctx} {b n e:Nat} {cs:List CT} {c:List Cell} {f0:R -> ctsT cs R} (hk:boxKind e cs = true) (hv:BoxV cc b n e c) (h:ctsDec cs c = some f0) :
  ∃ k,(∀ y,ctsEmb cs (f0 y) = (k,y)) /\ (∀ y ∈ k,y.target = none) /\ BoxV cc b n e k:=by
 by_cases he:e < spc
 ·obtain ⟨us,p2,p3,p4⟩:=hv.norm he;obtain ⟨k,b0,b1,b2,b3⟩:=cts_sound (pl:=fun i=>.box n i) h p3 p4
  exact ⟨k,b0,b2,.mk he ⟨us,p2,by rw [p3,b1],b3⟩⟩
 ·obtain ⟨l,rfl,hh⟩:=hv.2 (by omega)
  have hb:Nat.blt e spc = false:=by
   cases hb:Nat.blt e spc with
   | true=>exact absurd (by simpa [Nat.blt_eq] using hb) he
   | false=>rfl
  unfold boxKind at hk;rw [hb] at hk;split at hk
  ·rename_i h1; cases h1
  ·simp only [ctsDec,CT.dec,Option.some.injEq] at h;subst h;exact ⟨_,fun y=>rfl,by simp [Cell.target],⟨fun h=>absurd h he,fun _=>⟨l,rfl,hh⟩⟩⟩
  ·cases hk
structure VFacts (E:Env) (g:Gh) (a:Act) (w:World) (v:VT) (st:St):Prop where
 sn:st.slots.map (·.1) = v.sn
 bn:st.boxes.map (·.1) = v.bn
 slots:∀ t z,(t,z) ∈ st.slots -> SVR (ctx E g a w) (.slot t) z (tv g.dy.out a t)
 boxes:∀ n e cs,(n,e,cs) ∈ st.boxes -> (g.perm (g.ι n) = .box n /\ BoxV (ctx E g a w) (g.ι n) n e cs) /\ ∀ c ∈ cs,c.target = none
theorem VT.facts {E:Env} {a:Act} {w:World} {g:Gh} (hr:Rel E s a w g):∀ {v:VT} {x:VT.T v},VT.dec s v = some x -> VFacts E g a w v (VT.emb v x)
 | [],x,h=>⟨rfl,rfl,by simp [VT.emb],by simp [VT.emb]⟩
 | .slot t gg cs :: r,x,h=>by
  have step:∀ (v:SV) (f0:VT.T r -> ctsT cs (VT.T r)) (y:VT.T r),s.slots.lookup t = some v -> v.sh = shapeB gg -> ctsDec cs v.cs = some f0 -> VT.dec s r = some y -> f0 y = x -> VFacts E g a w (.slot t gg cs :: r) (VT.emb (.slot t gg cs :: r) x):=fun v f0 y h1 h2 h3 h4 h5=>by
   have ih:=VT.facts hr h4;obtain ⟨k,b0,b1⟩:=decSlot_sound hr h1 h2 h3;have he:VT.emb (.slot t gg cs :: r) x = { VT.emb r y with slots:=(t,⟨shapeB gg,k⟩) :: (VT.emb r y).slots }:=by
    rw [<- h5]; simp only [VT.emb,b0]
   rw [he];refine ⟨by simp [VT.sn,ih.sn],by simpa [VT.bn] using ih.bn,fun t' z hm=>?_,ih.boxes⟩
   simp only [List.mem_cons] at hm;rcases hm with hm | hm
   ·injection hm with hm1 hm2;subst hm1; subst hm2;exact b1
   ·exact ih.slots t' z hm
  simp only [VT.dec] at h;split at h
  ·rename_i v hv;split at h
   ·rename_i hsh;split at h
    ·rename_i f0 h3;split at h
     ·rename_i y h4;injection h with h;exact step v f0 y hv hsh h3 h4 h
     ·cases h
    ·cases h
   ·rename_i hsh;split at h
    ·rename_i f0 h3;split at h
     ·rename_i y h4;injection h with h;exact step v f0 y hv hsh h3 h4 h
     ·cases h
    ·cases h
   ·cases h
  ·cases h
 | .box n e cs :: r,x,h=>by
  simp only [VT.dec] at h;split at h
  ·rename_i e' c hn;split at h
   ·rename_i he;rw [Bool.and_eq_true] at he;have hk:=he.2;have he:=Nat.eq_of_beq_eq_true he.1;subst he;split at h
    ·rename_i f0 h3;split at h
     ·rename_i y h4;injection h with h;have ih:=VT.facts hr h4;obtain ⟨p1,p2⟩:=hr.boxes n e' c hn;obtain ⟨k,b0,b2,b3⟩:=boxKind_sound hk p2 h3;have he:VT.emb (.box n e' cs :: r) x = { VT.emb r y with boxes:=(n,e',k) :: (VT.emb r y).boxes }:=by
       rw [<- h]; simp only [VT.emb,b0]
      rw [he];refine ⟨by simpa [VT.sn] using ih.sn,by simp [VT.bn,ih.bn],ih.slots,fun n' e1 cs' hm=>?_⟩
      simp only [List.mem_cons] at hm;rcases hm with hm | hm
      ·injection hm with hm1 hm2;injection hm2 with hm2 hm3;subst hm1; subst hm2; subst hm3;exact ⟨⟨p1,b3⟩,b2⟩
      ·exact ih.boxes n' e1 cs' hm
     ·cases h
    ·cases h
   ·cases h
  ·cases h
def VT.ok (v:VT):Prop:=v.sn.Nodup /\ v.bn.Nodup
def VT.okB (v:VT):Bool:=nodupB v.sn && nodupB v.bn
theorem VT.okV {v:VT} (h:VT.okB v = true):VT.ok v:=by
 unfold VT.okB at h;rw [Bool.and_eq_true] at h;exact ⟨nodupB_sound h.1,nodupB_sound h.2⟩
theorem VT.okX {X:List (Out × VT)} (h:(X.all fun q=>VT.okB q.2) = true):∀ q ∈ X,VT.ok q.2:=fun q hq=>by
 rw [List.all_eq_true] at h;exact VT.okV (h q hq)
theorem VT.sound {v:VT} (hv:v.ok) {x:VT.T v} (h:VT.dec s v = some x) (hr:Rel E s a w g):Rel E (VT.emb v x) a w g:=by
 have hf:=VT.facts hr h;exact { hr with uniq:=⟨by unfold Uniq; rw [hf.sn]; exact hv.1,by unfold Uniq; rw [hf.bn]; exact hv.2⟩,slots:=fun t z hz=>hf.slots t z (lookup_mem hz),boxes:=fun n e cs hn=>(hf.boxes n e cs (lookup_mem hn)).1,nt:=fun n e cs hn=>(hf.boxes n e cs (lookup_mem hn)).2 }
theorem toOut_sound:∀ {X:List (Out × VT)} {e:Exit} {x:XT X},(∀ q ∈ X,VT.ok q.2) -> toOut X e s = some x -> Rel E s a w g -> (outOf X x).1 = e /\ Rel E (outOf X x).2 a w g
 | [],e,x,_,h,_=>by cases h
 | [q],e,x,hX,h,hr=>by
  simp only [toOut] at h;split at h
  ·rename_i hq;have he:q.1.ex = e:=by
    cases hq1:q.1 <;> cases e <;> simp [hq1,Out.is] at hq
    ·rfl
    ·rfl
    ·rename_i i j; simp [Out.ex]; exact (Nat.eq_of_beq_eq_true (by simpa using hq)).symm
   exact ⟨he,VT.sound (hX q (by simp)) h hr⟩
  ·cases h
 | q :: q' :: X,e,x,hX,h,hr=>by
  simp only [toOut] at h;split at h
  ·rename_i hq;have he:q.1.ex = e:=by
    cases hq1:q.1 <;> cases e <;> simp [hq1,Out.is] at hq
    ·rfl
    ·rfl
    ·rename_i i j; simp [Out.ex]; exact (Nat.eq_of_beq_eq_true (by simpa using hq)).symm
   split at h
   ·rename_i y hy;injection h with h; subst h
    exact ⟨he,VT.sound (hX q (by simp)) hy hr⟩
   ·cases h
  ·split at h
   ·rename_i y hy;injection h with h; subst h
    exact toOut_sound (X:=q' :: X) (fun q hq=>hX q (List.mem_cons_of_mem _ hq)) hy hr
   ·cases h
def loopBody:Code -> Code
 | .loop c=>c
 | c=>c
def SegOk (P:Program) (N:Nat) (c:Code) (sg:Seg):Prop:=
 ∀ (E:Env) s v x,E.Ok P -> E.N = N -> VT.dec s sg.V = some v -> sg.F v = some x -> AWp P E.rd E c s (fun e s'=>outOf sg.X x = (e,s'))
def SegsOk (P:Program) (N:Nat) (c0:Code) (G:List (Nat × Seg)):Prop:=∀ p c,Reach c0 p c -> ∀ s q,segIn s G p = some q -> SegOk P N c q.1 /\ VT.dec s q.1.V = some q.2
theorem SegsOk.nil {c0:Code}:SegsOk P N c0 []:=fun p c _ s q h=>by cases h
theorem SegsOk.cons {c0 c1:Code} {f p:Nat} {sg:Seg} {G:List (Nat × Seg)} (hc:cAt c0 f p = some c1) (h1:SegOk P N c1 sg) (h2:SegsOk P N c0 G):SegsOk P N c0 ((p,sg) :: G):=fun q c hq s sg' h=>by
 simp only [segIn] at h;split at h
 ·rename_i hp;have hp:=Nat.eq_of_beq_eq_true hp;subst hp;split at h
  ·rename_i v hv;injection h with h;subst h;rw [hq.is hc];exact ⟨h1,hv⟩
  ·exact h2 p c hq s sg' h
 ·exact h2 q c hq s sg' h
def MeOk (P:Program) (me:Nat) (c0:Code) (N:Nat):Prop:=∃ fn:Func,P.funcs[me]? = some fn /\ fn.body = some c0 /\ fn.ntmps = N
theorem AWp.post {c:Code} {R R':Exit -> St -> Prop} (h:AWp P r E c s R) (hR:∀ e s' a' w' g',R e s' -> Rel E s' a' w' g' -> ∃ s'',R' e s'' /\ Rel E s'' a' w' g'):AWp P r E c s R':=
 fun a w g hr=>wpIn_mono (h a w g hr) fun e a' w' ⟨s',g',h1,h2⟩=>let ⟨s'',h3,h4⟩:=hR e s' a' w' g' h1 h2; ⟨s'',g',h3,h4⟩
theorem caseOut_eq:∀ {X:List (Out × VT)} {x:XT X} {k:Exit -> St -> Option ρ},caseOut X x k = k (outOf X x).1 (outOf X x).2
 | [],x,k=>nomatch x
 | [q],x,k=>rfl
 | q :: q' :: r,.inl y,k=>rfl
 | q :: q' :: r,.inr z,k=>caseOut_eq (X:=q' :: r)
theorem jumpTo_sound {kn:Bool} {n:Int} {k:Exit -> Option ρ} {y:ρ}:∀ {l:List (Int × Exit)},jumpTo kn n k l = some y -> ∃ q ∈ l,n = q.1 /\ k q.2 = some y
 | [],h=>by cases h
 | (c,e) :: r,h=>by
  unfold jumpTo at h;split at h
  ·split at h
   ·exact ⟨_,List.mem_cons_self,by assumption,h⟩
   ·obtain ⟨q,h1,h2⟩:=jumpTo_sound h;exact ⟨q,List.mem_cons_of_mem _ h1,h2⟩
  ·split at h
   ·obtain ⟨hb,h⟩:=bgd_some h;simp [F.eq] at hb;exact ⟨_,List.mem_cons_self,hb,h⟩
   ·rw [bite_eq] at h;split at h
    ·rename_i hb;simp [F.eq] at hb;exact ⟨_,List.mem_cons_self,hb,h⟩
    ·obtain ⟨q,h1,h2⟩:=jumpTo_sound h;exact ⟨q,List.mem_cons_of_mem _ h1,h2⟩
theorem waysOf_mem {b:Code} {q:Int × Exit} (h:q ∈ waysOf b):q = (0,.normal) \/ q = (2,.ret) \/ ∃ i:Nat,q = (((3 + i:Nat):Int),.exit i):=by
 unfold waysOf at h;rcases List.mem_cons.1 h with h | h
 ·exact .inl h
 ·rcases List.mem_append.1 h with h | h
  ·split at h
   ·simp at h; exact .inr (.inl h)
   ·simp at h
  ·obtain ⟨i,_,rfl⟩:=List.mem_map.1 h;exact .inr (.inr ⟨i,rfl⟩)
theorem range_go {I:Inl ρ} (hI:InlsOk P I) (hE:E.Ok P) {f:Operand} {b:Code} {k:Exit -> St -> Option ρ} {y:ρ} {x:LpI} {a1:Act} {w1:World} {g1:Gh} (hE2:(E.loop x).Lp P) (hb:E.base <= x.l) (htm:a1.tmps = x.rc.tmps) (hr1:Rel (E.loop x) s a1 w1 g1) (hι:g1.ι lim = x.l)
  (h:rangeE I f b k s = some y):∃ fn us,a1.eval f = .func (.func fn) #[] us /\ (∀ args w,(callFunc fn args).run P w = .ok (.enter fn args) w) /\ CallsIn (Fr E.rd) (9 - 1) P fn (#[.func (.yield x.l) #[] #[]] ++ us) w1 (rangePost (Fr E.rd) 9 P x.l (fun e a' w'=>∃ s' g',k e s' = some y /\ Rel E s' a' w' g') a1):=by
 have yl:Handed (E.loop x) g1 a1 w1 [one (.yld lim)] [.func (.yield x.l) #[] #[]]:=by
  refine ⟨rfl,fun i z v hz hv=>?_⟩
  cases i with
  | zero=>
   simp at hz hv;subst hz; subst hv;exact ⟨⟨fun _=>.slot 0 0,SVR.of_one rfl (by show _ = Value.func (.yield (g1.ι lim)) #[] #[]; rw [hι])⟩,rfl⟩
  | succ i=>simp at hz
 have go:∀ {fn:Nat} {g:Way ρ} {caps:List SV} {us:List Value},I.fn 1099 fn = some g -> a1.eval f = .func (.func fn) #[] us.toArray -> Handed (E.loop x) g1 a1 w1 caps us -> g s (one (.yld lim) :: caps) (fun _ s'=>loopOut b k s') = some y ->
   ∃ fn us,a1.eval f = .func (.func fn) #[] us /\ (∀ args w,(callFunc fn args).run P w = .ok (.enter fn args) w) /\ CallsIn (Fr E.rd) (9 - 1) P fn (#[.func (.yield x.l) #[] #[]] ++ us) w1 (rangePost (Fr E.rd) 9 P x.l (fun e a' w'=>∃ s' g',k e s' = some y /\ Rel E s' a' w' g') a1):=fun {fn g caps us} hg hfv hc hgo=>by
  obtain ⟨hent,hok⟩:=hI.fn _ _ _ hg;refine ⟨fn,us.toArray,hfv,hent,callsIn_any (n:=9) ?_⟩
  have hcall:=hok (E.loop x) s _ _ y hE2 hgo E.rd a1 w1 g1 _ hr1 (fun x' hx' t _=>by
   have hx':(if lim = lim then some x else E.lps lim) = some x':=hx'
   rw [if_pos rfl] at hx';injection hx' with hx'
   subst hx'
   rw [htm]) (yl.append hc)
  have e:([Value.func (.yield x.l) #[] #[]] ++ us).toArray = #[.func (.yield x.l) #[] #[]] ++ us.toArray:=by simp
  rw [e] at hcall;refine hcall.mono fun e w3 hb3=>?_
  obtain ⟨u,v,s',g',rfl,hk,hr',_,_⟩:=hb3;have hk:loopOut b k s' = some y:=hk;unfold loopOut at hk;split at hk
  ·rename_i c0 cs hs;split at hk
   ·rename_i kn kk n hv;obtain ⟨x',e1,e2,e3⟩:=hr'.lpCode hE2 lim_mod hs hv;have e1:(if lim = lim then some x else E.lps lim) = some x':=e1
    rw [if_pos rfl] at e1;injection e1 with e1;subst e1;obtain ⟨k1,k2⟩:=hr'.ko _ _ e3;obtain ⟨⟨c,e⟩,hq,hn,hke⟩:=jumpTo_sound hk;have hn:n = c:=hn;subst hn;have hne:(recAt x.rc n).state ≠ .busy:=by
     rcases waysOf_mem hq with h | h | ⟨i,h⟩ <;> injection h with h _ <;> subst h
     ·simp [recAt]
     ·simp [recAt]
     ·show (if ((3 + i:Nat):Int) = 0 then LoopState.ready else if ((3 + i:Nat):Int) = 1 then .busy else .done) ≠ .busy
      rw [if_neg (by omega),if_neg (by omega)]; simp
    obtain ⟨_,_,_,g'',hr''⟩:=hr'.loopEnd (o':=.loop { recAt x.rc n with state:=.exhausted }) hb
    obtain ⟨w4,hw4⟩:∃ w4,w4 = w3.putObj x.l (.loop { recAt x.rc n with state:=.exhausted }):=⟨_,rfl⟩
    rw [<- hw4] at hr'';refine ⟨_,w4,by rw [hw4]; exact run_endLoop k1 hne,?_⟩
    clear hw4;rcases waysOf_mem hq with h | h | ⟨i,h⟩ <;> injection h with h h' <;> subst h <;> subst h'
    ·exact ⟨_,_,hke,hr''⟩
    ·exact wpIn_ret ⟨_,_,hke,hr''⟩
    ·have hp:(recAt x.rc ((3 + i:Nat):Int)).pending = some (.exit i):=by
      show (if ((3 + i:Nat):Int) = 0 \/ ((3 + i:Nat):Int) = 1 then none else if ((3 + i:Nat):Int) = 2 then some .ret else some (.exit (((3 + i:Nat):Int) - 3).toNat)) = some (Code.exit i)
      rw [if_neg (by omega),if_neg (by omega)]
      congr 2
      omega
     rw [hp];exact wpIn_exit ⟨_,_,hke,hr''⟩
   ·cases hk
  ·cases hk
 unfold rangeE at h;split at h
 ·rename_i fn caps hf;split at h
  ·rename_i g hg;exact go hg (hr1.eval hf).one.2 handed_clo h
  ·cases h
 ·rename_i fn dss hf;split at h
  ·rename_i g hg;obtain ⟨us,hfv,hc⟩:=handed_dclo (hr1.eval hf).one.2;exact go hg hfv hc h
  ·cases h
 ·cases h
theorem AWp.range {I:Inl ρ} (hI:InlsOk P I) (hE:E.Ok P) (hN:N = E.N) {c0:Code} {me p:Nat} (hme:MeOk P me c0 N) {f:Operand} {ps:Array Tmp} {as b:Code} (hp:Reach c0 p (.rangeFunc f ps as b)) {k:Exit -> St -> Option ρ} {y:ρ} (h:rangeE I f b k (s.loopIn me p) = some y) :
  AWp P E.rd E (.rangeFunc f ps as b) s (fun e s'=>k e s' = some y):=by
 obtain ⟨fnc,hf,hbd,hnt⟩:=hme;intro a w g hr;refine wpIn_rangeFunc fun fn hfn=>?_
 cases hrd:E.rd with
 | none=>
  let x:LpI:=⟨w.heap.size + 1,{ state:=.ready,pending:=none,fn:=fn,tmps:=a.tmps,params:=ps,assign:=as,body:=b,defers:=w.heap.size },me,p⟩
  let w1:World:=(w.alloc (.deferred (some []))).alloc (.loop x.rc)
  have hbel:Below w.heap.size w w1:=((Below.refl _ w).alloc (Nat.le_refl _) _).alloc (by simp) _
  have hL:w1.heap[w.heap.size + 1]? = some (.loop x.rc):=by
   have:=World.alloc_heap_new (w.alloc (.deferred (some []))) (.loop x.rc)
   rwa [World.size_alloc] at this
  have hD:w1.heap[w.heap.size]? = some (.deferred (some [])):=(Below.heap_alloc _ _ _ (by simp)).trans (World.alloc_heap_new w _)
  have hnew:∀ k,w.heap.size <= k -> g.dy.ko k = none:=fun k hk=>by
   cases hq:g.dy.ko k with
   | none=>rfl
   | some o=>
    have:=(Array.getElem?_eq_some_iff.1 (hr.ko k o hq).1).1;omega
  have hfree:g.perm w.heap.size = .free:=perm_newF hr.toF;have hE2:(E.loop x).Lp P:=hE.lp.loop hE.no (by have:=hr.base; show E.base <= w.heap.size + 1; omega) ⟨fnc,c0,f,hf,hbd,by rw [hnt,hN]; exact hr.size.symm,hp⟩
  have hr1:=hr.loopIn (x:=x) (dy1:=g.dy.mark w.heap.size) (a1:={ a with defers:=markOf w.heap.size :: a.defers }) hbel (Nat.le_succ _) hL rfl (hE.rd.mark hrd g.dy w.heap.size hr.dyn hr.base (hnew _ (Nat.le_refl _)))
   (fun k o hk=>by
    have hk:(if k = w.heap.size then some (Obj.deferred (some [])) else g.dy.ko k) = some o:=hk
    split at hk
    ·rename_i e;injection hk with hk;subst hk; subst e;exact ⟨hD,hfree⟩
    ·obtain ⟨m1,m2⟩:=hr.ko k o hk;have hlt:=(Array.getElem?_eq_some_iff.1 m1).1
     exact ⟨(hbel.block k hlt).trans m1,m2⟩)
   (by
     show (if w.heap.size + 1 = w.heap.size then some (Obj.deferred (some [])) else g.dy.ko (w.heap.size + 1)) = none
     rw [if_neg (by omega)]; exact hnew _ (by omega)) rfl (by show _ = markOf _ :: g.dy.ds; rw [<- hr.defers])
  obtain ⟨fn',us,e1,e2,e3⟩:=range_go hI hE hE2 (by have:=hr.base; show E.base <= w.heap.size + 1; omega) (by rfl) hr1 (by show (if lim = lim then x.l else g.ι lim) = x.l; exact if_pos rfl) h
  rw [hrd] at e3;have e1:a.eval f = .func (.func fn') #[] us:=by rw [<- e1]; cases f <;> rfl
  have he:(Instr.enterLoop fn a.tmps ps as b none).run P w = .ok (w.heap.size + 1,[markOf w.heap.size]) w1:=run_enterLoop_outer fn a.tmps ps as b;have e4:({ a with defers:=[markOf w.heap.size] ++ a.defers }:Act) = { a with defers:=markOf w.heap.size :: a.defers }:=rfl
  refine ⟨w.heap.size + 1,[markOf w.heap.size],w1,{ target:=.fn (.func fn') us,args:=#[.func (.yield (w.heap.size + 1)) #[] #[]] },w1,fn',#[.func (.yield (w.heap.size + 1)) #[] #[]] ++ us,w1,he,?_,fun _ _=>trivial,?_,fun h=>by simp [Fr] at h,?_⟩
  rotate_left 2
  ·rw [e4]; exact e3
  ·simp only [resolve,e1];simp [go_sem]
  ·simp [invoke,go_sem,e2]
 | some l0=>
  obtain ⟨hds,r0,hl0⟩:=hE.rd.round l0 hrd g.dy hr.dyn;obtain ⟨k1,k2⟩:=hr.ko _ _ hl0
  let x:LpI:=⟨w.heap.size,{ state:=.ready,pending:=none,fn:=fn,tmps:=a.tmps,params:=ps,assign:=as,body:=b,defers:=r0.defers },me,p⟩
  let w1:World:=w.alloc (.loop x.rc)
  have hbel:Below w.heap.size w w1:=(Below.refl _ w).alloc (Nat.le_refl _) _;have hL:w1.heap[w.heap.size]? = some (.loop x.rc):=World.alloc_heap_new w _;have hnew:∀ k,w.heap.size <= k -> g.dy.ko k = none:=fun k hk=>by
   cases hq:g.dy.ko k with
   | none=>rfl
   | some o=>
    have:=(Array.getElem?_eq_some_iff.1 (hr.ko k o hq).1).1;omega
  have hE2:(E.loop x).Lp P:=hE.lp.loop hE.no hr.base ⟨fnc,c0,f,hf,hbd,by rw [hnt,hN]; exact hr.size.symm,hp⟩
  have hr1:=hr.loopIn (x:=x) (dy1:=g.dy) (a1:=a) hbel (Nat.le_refl _) hL rfl hr.dyn
   (fun k o hk=>by
    obtain ⟨m1,m2⟩:=hr.ko k o hk;have hlt:=(Array.getElem?_eq_some_iff.1 m1).1
    exact ⟨(hbel.block k hlt).trans m1,m2⟩)
   (hnew _ (Nat.le_refl _)) rfl hr.defers
  obtain ⟨fn',us,e1,e2,e3⟩:=range_go hI hE hE2 hr.base (by rfl) hr1 (by show (if lim = lim then x.l else g.ι lim) = x.l; exact if_pos rfl) h
  rw [hrd] at e3;have he:(Instr.enterLoop fn a.tmps ps as b (some l0)).run P w = .ok (w.heap.size,[]) w1:=run_enterLoop_inner k1 fn a.tmps ps as b;have e4:({ a with defers:=[] ++ a.defers }:Act) = a:=rfl
  refine ⟨w.heap.size,[],w1,{ target:=.fn (.func fn') us,args:=#[.func (.yield w.heap.size) #[] #[]] },w1,fn',#[.func (.yield w.heap.size) #[] #[]] ++ us,w1,he,?_,fun _ _=>trivial,?_,fun h=>by simp [Fr] at h,?_⟩
  rotate_left 2
  ·rw [e4]; exact e3
  ·simp only [resolve,e1];simp [go_sem]
  ·simp [invoke,go_sem,e2]
theorem ev_sound {I:Inl ρ} (hT:∀ e ∈ T,Ent.Ok P e) (hI:InlsOk P I) (hE:E.Ok P) (hmo:P.follows .mixedOrders = true) (hN:N = E.N) {c0:Code} {me:Nat} (hme:MeOk P me c0 N) {G:List (Nat × Seg)} (hG:SegsOk P N c0 G):∀ (c:Code) (p:Nat) (s:St) (k:Exit -> St -> Option ρ) (y:ρ),Reach c0 p c -> ev T P N U me G I c p s k = some y ->
  AWp P E.rd E c s (fun e s'=>k e s' = some y):=by
 have seg:∀ (c:Code) (p:Nat) (s:St) (k:Exit -> St -> Option ρ) (y:ρ) (sg:Seg) (v:VT.T sg.V),Reach c0 p c -> segIn s G p = some ⟨sg,v⟩ -> (obind (sg.F v) fun x=>caseOut sg.X x k) = some y -> AWp P E.rd E c s (fun e s'=>k e s' = some y):=fun c p s k y sg v hp hsg h=>by
  obtain ⟨hok,hv⟩:=hG p c hp s _ hsg;obtain ⟨x,hx,h⟩:=obind_some h;refine (hok E s v x hE hN.symm hv hx).mono fun e s' he=>?_
  rw [caseOut_eq,he] at h;exact h
 intro c;induction c with
 | skip=>
  intro p s k y hp h;unfold ev at h;split at h
  ·rename_i sg v hsg; exact seg _ p s k y sg v hp hsg h
  ·exact AWp.skip h
 | region id ops draw=>
  intro p s k y hp h;unfold ev at h;split at h
  ·rename_i sg v hsg; exact seg _ p s k y sg v hp hsg h
  ·exact (evR_sound hT hI hE hmo hN h).mono fun e s' ⟨h1,h2⟩=>by rw [h1]; exact h2
 | seq a b iha ihb=>
  intro p s k y hp h;unfold ev at h;split at h
  ·rename_i sg v hsg; exact seg _ p s k y sg v hp hsg h
  ·refine AWp.seq ((iha _ s _ y hp.seqL h).mono fun e s' h'=>?_)
   cases e with
   | normal=>exact ihb _ s' k y hp.seqR h'
   | _=>exact h'
 | cond x a b iha ihb=>
  intro p s k y hp h;unfold ev at h;split at h
  ·rename_i sg v hsg; exact seg _ p s k y sg v hp hsg h
  ·dsimp only at h;split at h
   ·rename_i hx; exact AWp.cond hx (iha _ s k y hp.condL h)
   ·rename_i hx; exact AWp.cond hx (ihb _ s k y hp.condR h)
   ·rename_i bb hx;rw [bite_eq] at h;refine AWp.condB hx (fun hb=>?_) (fun hb=>?_)
    ·subst hb; exact iha _ s k y hp.condL (by simpa using h)
    ·subst hb; exact ihb _ s k y hp.condR (by simpa using h)
   ·cases h
 | block i a iha=>
  intro p s k y hp h;unfold ev at h;split at h
  ·rename_i sg v hsg; exact seg _ p s k y sg v hp hsg h
  ·refine AWp.block ((iha _ s _ y hp.block h).mono fun e s' h'=>?_)
   cases e with
   | exit j=>
    simp only [inBlockQ];dsimp only at h';split at h'
    ·rename_i hj;rw [if_pos (Nat.eq_of_beq_eq_true hj)];exact h'
    ·rename_i hj;rw [if_neg (Nat.ne_of_beq_eq_false hj)];exact h'
   | _=>exact h'
 | loop a iha=>
  intro p s k y hp h;unfold ev at h;split at h
  ·rename_i sg v hsg; exact seg _ p s k y sg v hp hsg h
  ·refine AWp.loop ?_;have key:∀ n s,loopU n (fun s' k'=>ev T P N U me G I a (2 * p) s' k') s k = some y -> Loops P E.rd E a (fun e s'=>k e s' = some y) s:=by
    intro n;induction n with
    | zero=>intro s h; cases h
    | succ n ih=>
     intro s h;simp only [loopU] at h;refine .step s (fun s'=>loopU n (fun s' k'=>ev T P N U me G I a (2 * p) s' k') s' k = some y) ((iha _ s _ y hp.loop h).mono fun e s' h'=>?_) ih
     cases e with
     | normal=>exact h'
     | _=>exact h'
   exact key U s h
 | exit i=>
  intro p s k y hp h;unfold ev at h;split at h
  ·rename_i sg v hsg; exact seg _ p s k y sg v hp hsg h
  ·exact AWp.exit h
 | ret=>
  intro p s k y hp h;unfold ev at h;split at h
  ·rename_i sg v hsg; exact seg _ p s k y sg v hp hsg h
  ·exact AWp.ret h
 | rangeFunc f ps as b iha ihb=>
  intro p s k y hp h;unfold ev at h;split at h
  ·rename_i sg v hsg; exact seg _ p s k y sg v hp hsg h
  ·exact AWp.range hI hE hN hme hp h
 | _=>
  intro p s k y hp h;unfold ev at h;split at h
  ·rename_i sg v hsg; exact seg _ p s k y sg v hp hsg h
  ·cases h
theorem SegOk.of (hT:∀ e ∈ T,Ent.Ok P e) (hmo:P.follows .mixedOrders = true) {c0 c:Code} {me:Nat} (hme:MeOk P me c0 N) {G:List (Nat × Seg)} (hG:SegsOk P N c0 G) {p:Nat} (hp:Reach c0 p c) {sg:Seg} {I:Inl (XT sg.X)} (hI:InlsOk P I) (hV:VT.ok sg.V) (hX:∀ q ∈ sg.X,VT.ok q.2)
  (h:∀ v,sg.F v = ev T P N U me G I c p (VT.emb sg.V v) (toOut sg.X)):SegOk P N c sg:=fun E s v x hE hN hv hx=>by
 rw [h v] at hx;exact (AWp.weaken (fun a w g hr=>VT.sound hV hv hr) (ev_sound hT hI hE hmo hN.symm hme hG c p _ _ x hp hx)).post fun e s' a' w' g' h1 h2=>by
  obtain ⟨k1,k2⟩:=toOut_sound hX h1 h2;exact ⟨_,by rw [<- k1],k2⟩
theorem SegOk.loop (hT:∀ e ∈ T,Ent.Ok P e) (hmo:P.follows .mixedOrders = true) {c0 c:Code} {me:Nat} (hme:MeOk P me c0 N) {G:List (Nat × Seg)} (hG:SegsOk P N c0 G) {p:Nat} (hp:Reach c0 p (.loop c)) {V:VT} {X:List (Out × VT)} {F:Nat -> VT.T V -> Option (XT X)} {I:Inl (XT X)} (hI:InlsOk P I) (hV:VT.ok V) (hX:∀ q ∈ X,VT.ok q.2)
  (h0:∀ v,F 0 v = none) (h:∀ n v,F (n + 1) v = ev T P N U me G I c (2 * p) (VT.emb V v) (roundK V X (F n))) (n:Nat):SegOk P N (.loop c) ⟨V,X,F n⟩:=fun E s v x hE hN hv hx=>by
 have key:∀ n v s,VT.dec s V = some v -> F n v = some x -> Loops P E.rd E c (fun e s'=>toOut X e s' = some x) s:=by
  intro n;induction n with
  | zero=>intro v s _ hx; rw [h0] at hx; cases hx
  | succ n ih=>
   intro v s hv hx;rw [h n v] at hx;refine .step s (fun s'=>∃ v',VT.dec s' V = some v' /\ F n v' = some x) (AWp.weaken (fun a w g hr=>VT.sound hV hv hr) ((ev_sound hT hI hE hmo hN.symm hme hG c (2 * p) _ _ x hp.loop hx).mono fun e s' h'=>?_)) (fun s' ⟨v',h1,h2⟩=>ih v' s' h1 h2)
   cases e with
   | normal=>
    simp only [roundK] at h';split at h'
    ·rename_i v' hv';exact ⟨v',hv',h'⟩
    ·cases h'
   | _=>exact h'
 refine (AWp.loop (key n v s hv hx)).post fun e s' a' w' g' h1 h2=>?_
 obtain ⟨k1,k2⟩:=toOut_sound hX h1 h2;exact ⟨_,by rw [<- k1],k2⟩
end
end Go.Proofs.YthnagpmnoncijaaGreat.M
