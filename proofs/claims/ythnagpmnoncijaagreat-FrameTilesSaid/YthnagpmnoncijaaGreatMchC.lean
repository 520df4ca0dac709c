/- A part of the proof. -/
import Derived.Test.YthnagpmnoncijaaGreatMchB
set_option linter.unusedVariables false
namespace Go.Proofs.YthnagpmnoncijaaGreat.M
open Go Go.RowKit
theorem St.box?_eq {s:St} {n:Nat} {q:Nat × List Cell} (h:s.box? n = some q):s.boxes.lookup n = some q /\ q.1 < spc:=by
 unfold St.box? at h;split at h
 ·rename_i e cs hq;split at h
  ·rename_i he; injection h with h; subst h; exact ⟨hq,he⟩
  ·cases h
 ·cases h
theorem Rel.norm {E:Env} {s:St} {a:Act} {w:World} {g:Gh} (hr:Rel E s a w g) {n e:Nat} {cs:List Cell} (hb:s.box? n = some (e,cs)):∃ us:List Value,w.heap[g.ι n]? = some (.cells us.toArray e (0,0)) /\ us.length = cs.length /\
  ∀ i x y,cs[i]? = some x -> us[i]? = some y -> y.oneCell' = true /\ CV (ctx E g a w) (.box n i) x y:=(hr.boxes n e cs (St.box?_eq hb).1).2.norm (St.box?_eq hb).2
theorem St.arr?_eq {s:St} {n e:Nat} {l:List Ty.bool.T} (h:s.arr? n = some (e,l)):s.boxes.lookup n = some (e,[.arr l]) /\ spc <= e:=by
 unfold St.arr? at h;split at h
 ·rename_i e' l' hq;split at h
  ·rename_i he; injection h with h; injection h with h1 h2; subst h1; subst h2; exact ⟨hq,he⟩
  ·cases h
 ·cases h
theorem Rel.arr {E:Env} {s:St} {a:Act} {w:World} {g:Gh} (hr:Rel E s a w g) {n e:Nat} {l:List Ty.bool.T} (hb:s.arr? n = some (e,l)):g.perm (g.ι n) = .box n /\ w.heap[g.ι n]? = some (.cells (l.map Value.bool).toArray (e - spc) (0,0)):=by
 obtain ⟨h1,h2⟩:=St.arr?_eq hb;obtain ⟨p,q⟩:=hr.boxes n e _ h1;obtain ⟨l',h3,h4⟩:=q.2 h2;injection h3 with h3;injection h3 with h3;subst h3;exact ⟨p,h4⟩
theorem evalP_run {α:Type} {P:Program}:∀ {s:Sem α} {a:α},evalP P s = some a -> ∀ w,s.run P w = .ok a w
 | .pure b,a,h,w=>by simp [evalP] at h; subst h; rfl
 | .program k,a,h,w=>by
  simp only [evalP] at h;exact evalP_run h w
 | .load ..,_,h,_=>by simp [evalP] at h
 | .store ..,_,h,_=>by simp [evalP] at h
 | .new ..,_,h,_=>by simp [evalP] at h
 | .shape ..,_,h,_=>by simp [evalP] at h
 | .freeze ..,_,h,_=>by simp [evalP] at h
 | .frozen ..,_,h,_=>by simp [evalP] at h
 | .getObj ..,_,h,_=>by simp [evalP] at h
 | .setObj ..,_,h,_=>by simp [evalP] at h
 | .choose ..,_,h,_=>by simp [evalP] at h
 | .sys ..,_,h,_=>by simp [evalP] at h
 | .mark ..,_,h,_=>by simp [evalP] at h
 | .halt ..,_,h,_=>by simp [evalP] at h
theorem DV.mono {w w':World} {k k':Nat -> Nat -> Prop} (h:∀ b i v,k b i -> w.cell? ⟨b,i,none⟩ = some v -> w'.cell? ⟨b,i,none⟩ = some v /\ k' b i) {d:D} {u:Value} (hd:DV w k d u):DV w' k' d u:=by
 induction hd with
 | v x hx=>exact .v x hx
 | emp t a cap hc=>exact .emp t a cap hc
 | lst t l b off cap u hc h1 hd hcap hm ih=>
  exact .lst t l b off cap u (fun i j hi hj=>h _ _ _ (hc i j hi hj).2 (hc i j hi hj).1) h1 ih hcap hm
 | clo f dss as x hl hc h1 hd ih=>
  exact .clo f dss as x hl (fun i q ds j d a1 a2 a3=>h _ _ _ (hc i q ds j d a1 a2 a3).2 (hc i q ds j d a1 a2 a3).1) h1 ih
theorem DV.fn {c:Ctx} {p:Place} {f:Nat} {dss:List (List D)} {u:Value} (h:DV c.w c.k (.clo f dss) u):CV c p (.dclo f dss) u:=by
 cases h with
 | clo f dss as x hl hc h1 hd=>
  exact ⟨as,rfl,hl,fun i q ds a1 a2 j d a3=>⟨x i j,(hc i q ds j d a1 a2 a3).1,(hc i q ds j d a1 a2 a3).2,h1 i q ds j d a1 a2 a3,hd i q ds j d a1 a2 a3⟩⟩
theorem CV.fn {c:Ctx} {p:Place} {f:Nat} {dss:List (List D)} {u:Value} (h:CV c p (.dclo f dss) u):DV c.w c.k (.clo f dss) u:=by
 obtain ⟨as,rfl,hl,hc⟩:=h;refine .clo f dss as (fun i j=>((as[i]?).bind fun q=>c.w.cell? ⟨q.1,q.2 + j,none⟩).getD undef) hl (fun i q ds j d a1 a2 a3=>?_) (fun i q ds j d a1 a2 a3=>?_) (fun i q ds j d a1 a2 a3=>?_)
 all_goals
  obtain ⟨x,b1,b2,b3,b4⟩:=hc i q ds a1 a2 j d a3;simp only [a1,Option.bind_some,b1,Option.getD_some]
 ·exact ⟨trivial,b2⟩
 ·exact b3
 ·exact b4
theorem DPV.mono {w w':World} {kp kp' k k':Nat -> Nat -> Prop} (h2:∀ b i v,kp b i -> w.cell? ⟨b,i,none⟩ = some v -> w'.cell? ⟨b,i,none⟩ = some v /\ kp' b i) (h:∀ b i v,k b i -> w.cell? ⟨b,i,none⟩ = some v -> w'.cell? ⟨b,i,none⟩ = some v /\ k' b i) {b off:Nat} {ds:List D} (hd:DPV w kp k b off ds):DPV w' kp' k' b off ds:=
 fun j d hj=>let ⟨x,h1,h3,h4,h5⟩:=hd j d hj; ⟨x,(h2 _ _ _ h3 h1).1,(h2 _ _ _ h3 h1).2,h4,h5.mono h⟩
theorem DPV.drop {w:World} {kp k:Nat -> Nat -> Prop} {b off n:Nat} {ds:List D} (hd:DPV w kp k b off ds):DPV w kp k b (off + n) (ds.drop n):=fun j d hj=>by
 rw [List.getElem?_drop] at hj;rw [Nat.add_assoc];exact hd _ d hj
theorem kp_mono {w w':World} {base:Nat} {lent:Nat -> Prop} {k k':Nat -> Nat -> Prop} (hw:∀ b,b < base -> ¬ lent b -> w'.heap[b]? = w.heap[b]?) (h:∀ b i v,k b i -> w.cell? ⟨b,i,none⟩ = some v -> w'.cell? ⟨b,i,none⟩ = some v /\ k' b i) :
  ∀ b i v,kpOf base lent k b i -> w.cell? ⟨b,i,none⟩ = some v -> w'.cell? ⟨b,i,none⟩ = some v /\ kpOf base lent k' b i:=fun b i v h1 h2=>by
 rcases h1 with h1 | h1
 ·refine ⟨?_,.inl h1⟩;unfold World.cell? at h2 ⊢;rw [hw b h1.1 h1.2];exact h2
 ·exact ⟨(h b i v h1 h2).1,.inr (h b i v h1 h2).2⟩
theorem CV.place {c:Ctx} {p q:Place} {x:Cell} {u:Value} (hx:x.isOwn = false) (h:CV c p x u):CV c q x u:=by
 cases x <;> first | exact h | simp [Cell.isOwn] at hx
theorem CV.copy {c:Ctx} {p q:Place} {x:Cell} {u:Value} {want:Bool} (h:CV c p x u) (hc:want = true -> x.isOwn = true -> c.conc p = some u):CV c q (x.copy want p) u:=by
 cases x with
 | own e t l=>
  obtain ⟨h1,h2,h3⟩:=h;cases want
  ·exact h2
  ·exact ⟨hc rfl rfl,h1,h2,h3⟩
 | ali p' e t l=>
  cases want
  ·exact h.2.2.1
  ·exact h
 | re p' t i fo=>
  cases want
  ·obtain ⟨b,_,_,_,e,_⟩:=h;exact ⟨b,_,e,fun j d hj=>by cases hj⟩
  ·exact h
 | _=>exact h
theorem copy_notOwn {want:Bool} {p:Place} {x:Cell}:(x.copy want p).isOwn = false:=by
 cases x <;> cases want <;> rfl
theorem copyCells_get {want:Bool} {pl:Nat -> Place}:∀ (cs:List Cell) (i j:Nat),(copyCells want pl i cs)[j]? = (cs[j]?).map fun c=>c.copy want (pl (i + j))
 | [],i,j=>by simp [copyCells]
 | c :: r,i,0=>by simp [copyCells]
 | c :: r,i,j + 1=>by
  simp only [copyCells,List.getElem?_cons_succ,copyCells_get r (i + 1) j];rw [show i + 1 + j = i + (j + 1) from by omega]
theorem copyCells_length {want:Bool} {pl:Nat -> Place}:∀ (cs:List Cell) (i:Nat),(copyCells want pl i cs).length = cs.length
 | [],i=>rfl
 | c :: r,i=>by simp [copyCells,copyCells_length r]
theorem copyCells_notOwn {want:Bool} {pl:Nat -> Place} (cs:List Cell) (i:Nat):(copyCells want pl i cs).any Cell.isOwn = false:=by
 rw [List.any_eq_false];intro x hx;obtain ⟨j,hj⟩:=List.mem_iff_getElem?.1 hx;rw [copyCells_get] at hj;cases hc:cs[j]? with
 | none=>simp [hc] at hj
 | some c=>simp [hc] at hj; rw [<- hj]; simp [copy_notOwn]
theorem flat_one {u:Value} (h:u.oneCell' = true):flat u = [u]:=by cases u <;> simp_all [flat,Value.oneCell']
theorem cells_one {u:Value} (h:u.oneCell' = true):u.cells = #[u]:=by cases u <;> simp_all [Value.cells,Value.oneCell']
theorem SVR.of_one {c:Ctx} {pl:Nat -> Place} {x:Cell} {u:Value} (h1:u.oneCell' = true) (h:CV c (pl 0) x u):SVR c pl ⟨.one,[x]⟩ u:=
 ⟨[u],rfl,flat_one h1,rfl,fun i y z hy hz=>by
  cases i with
  | zero=>simp at hy hz; subst hy hz; exact ⟨h1,h⟩
  | succ i=>simp at hy⟩
theorem SVR.one {c:Ctx} {pl:Nat -> Place} {x:Cell} {u:Value} (h:SVR c pl ⟨.one,[x]⟩ u):u.oneCell' = true /\ CV c (pl 0) x u:=by
 obtain ⟨us,hu,hf,hl,hc⟩:=h
 match us,hl with
 | [y],_=>
  have:=hc 0 x y rfl rfl;simp [Shape.mk] at hu;subst hu;exact this
theorem SVR.of_agg {c:Ctx} {pl:Nat -> Place} {cs:List Cell} {us:List Value} (hl:us.length = cs.length) (h:∀ i x y,cs[i]? = some x -> us[i]? = some y -> y.oneCell' = true /\ CV c (pl i) x y) :
  SVR c pl ⟨.agg,cs⟩ (.agg us.toArray):=⟨us,rfl,by simp [flat],hl,h⟩
theorem SVR.agg {c:Ctx} {pl:Nat -> Place} {cs:List Cell} {u:Value} (h:SVR c pl ⟨.agg,cs⟩ u):∃ us:List Value,u = .agg us.toArray /\ us.length = cs.length /\ ∀ i x y,cs[i]? = some x -> us[i]? = some y -> y.oneCell' = true /\ CV c (pl i) x y:=
 let ⟨us,hu,_,hl,hc⟩:=h; ⟨us,hu,hl,hc⟩
theorem SVR.cells {c c':Ctx} {pl pl':Nat -> Place} {sh:Shape} {cs cs':List Cell} {u:Value} (h:SVR c pl ⟨sh,cs⟩ u) (hl:cs'.length = cs.length)
  (hc:∀ i x x' y,cs[i]? = some x -> cs'[i]? = some x' -> (flat u)[i]? = some y -> CV c (pl i) x y -> CV c' (pl' i) x' y):SVR c' pl' ⟨sh,cs'⟩ u:=by
 obtain ⟨us,hu,hf,hl',hcs⟩:=h;refine ⟨us,hu,hf,by rw [hl',hl],fun i x' y hx' hy=>?_⟩
 have hi:i < cs.length:=by
  have:=(List.getElem?_eq_some_iff.1 hx').1;simp only at this;omega
 have hx:cs[i]? = some cs[i]:=List.getElem?_eq_getElem hi;exact ⟨(hcs i _ y hx hy).1,hc i _ x' y hx hx' (by rw [hf]; exact hy) (hcs i _ y hx hy).2⟩
theorem SVR.copy {c:Ctx} {pl pl' pl2:Nat -> Place} {sh:Shape} {cs:List Cell} {u:Value} {want:Bool} (h:SVR c pl ⟨sh,cs⟩ u)
  (hp:want = true -> (∀ i,pl' i = pl i) /\ ∀ i y,(flat u)[i]? = some y -> c.conc (pl i) = some y):SVR c pl2 ⟨sh,copyCells want pl' 0 cs⟩ u:=by
 refine h.cells (copyCells_length cs 0) fun i x x' y hx hx' hy hv=>?_
 rw [copyCells_get,hx] at hx';simp at hx';subst hx';cases want with
 | false=>
  cases x with
  | own e t l=>exact hv.2.1
  | ali p' e t l=>exact hv.2.2.1
  | re p' t i fo=>
   obtain ⟨b,_,_,_,e,_⟩:=hv;exact ⟨b,_,e,fun j d hj=>by cases hj⟩
  | _=>exact hv
 | true=>
  obtain ⟨h1,h2⟩:=hp rfl;rw [h1 i];exact hv.copy fun _ _=>h2 i y hy
theorem SVR.place {c:Ctx} {pl pl':Nat -> Place} {s:SV} {u:Value} (h:SVR c pl s u) (ho:s.cs.any Cell.isOwn = false):SVR c pl' s u:=by
 obtain ⟨us,hu,hf,hl,hcs⟩:=h;refine ⟨us,hu,hf,hl,fun i x y hx hy=>⟨(hcs i x y hx hy).1,(hcs i x y hx hy).2.place ?_⟩⟩
 rw [List.any_eq_false] at ho;simpa using ho x (List.mem_of_getElem? hx)
theorem constCell_sound {c:Ctx} {p:Place} {v:Value} {x:Cell} (h:constCell v = some x):v.oneCell' = true /\ CV c p x v /\ x.isOwn = false:=by
 unfold constCell at h;split at h
 ·simp at h; subst h; exact ⟨rfl,rfl,rfl⟩
 ·simp at h
 ·simp at h
 ·rename_i h1 h2 h3;simp at h; subst h;refine ⟨?_,rfl,rfl⟩;cases v <;> simp_all [Value.oneCell']
theorem constCells_sound {c:Ctx} {pl:Nat -> Place}:∀ {vs:List Value} {cs:List Cell},constCells vs = some cs -> vs.length = cs.length /\ cs.any Cell.isOwn = false /\
  ∀ i x y,cs[i]? = some x -> vs[i]? = some y -> y.oneCell' = true /\ CV c (pl i) x y
 | [],cs,h=>by simp [constCells] at h; subst h; simp
 | v :: vs,cs,h=>by
  simp only [constCells] at h;cases h1:constCell v with
  | none=>simp [h1] at h
  | some x=>
   cases h2:constCells vs with
   | none=>simp [h1,h2] at h
   | some r=>
    simp [h1,h2] at h;subst h;obtain ⟨hl,ho,hi⟩:=constCells_sound (c:=c) (pl:=fun i=>pl (i + 1)) h2
    obtain ⟨a1,a2,a3⟩:=constCell_sound (c:=c) (p:=pl 0) h1;refine ⟨by simp [hl],by simp [a3]; simpa using ho,fun i x' y hx hy=>?_⟩
    cases i with
    | zero=>simp at hx hy; subst hx hy; exact ⟨a1,a2⟩
    | succ i=>simp at hx hy; exact hi i x' y hx hy
theorem constSV_sound {c:Ctx} {pl:Nat -> Place} {v:Value} {s:SV} (h:constSV v = some s):SVR c pl s v /\ s.cs.any Cell.isOwn = false:=by
 unfold constSV at h;split at h
 ·rename_i cs;cases h1:constCells cs.toList with
  | none=>simp [h1] at h
  | some l=>
   simp [h1] at h; subst h;obtain ⟨hl,ho,hi⟩:=constCells_sound (c:=c) (pl:=pl) h1;refine ⟨?_,ho⟩;have:=SVR.of_agg (c:=c) (pl:=pl) (us:=cs.toList) hl hi;simpa using this
 ·simp at h
 ·rename_i h1 h2;cases hc:constCell v with
  | none=>simp [hc] at h
  | some x=>
   simp [hc] at h; subst h;obtain ⟨a1,a2,a3⟩:=constCell_sound (c:=c) (p:=pl 0) hc;exact ⟨SVR.of_one a1 a2,by simp [a3]⟩
def plOf:Operand -> Nat -> Place
 | .tmp t=>.slot t
 | _=>.slot 0
section
variable {P:Program} {E:Env} {s:St} {a:Act} {w:World} {g:Gh}
theorem look_some {s:St} {t:Nat} {v:SV} (h:s.look t = some v):t < lim /\ s.slots.lookup t = some v:=by
 unfold St.look at h;split at h
 ·exact ⟨by assumption,h⟩
 ·cases h
theorem tv_own {out:Nat -> Value} {a:Act} {t:Nat} (h:t < lim):tv out a t = a.eval (.tmp t):=if_pos h
theorem Rel.eval (h:Rel E s a w g) {x:Operand} {v:SV} (hx:evalO s x = some v):SVR (ctx E g a w) (plOf x) v (a.eval x):=by
 cases x with
 | tmp t=>
  obtain ⟨h1,h2⟩:=look_some hx;rw [<- tv_own (out:=g.dy.out) h1];exact h.slots t v h2
 | const c=>exact (constSV_sound hx).1
 | func f=>
  simp [evalO] at hx; subst hx;exact SVR.of_one rfl (by simp [CV,Act.eval])
 | global _=>simp [evalO] at hx
theorem Rel.conc (h:Rel E s a w g) {t:Nat} {x:SV} (hx:s.slots.lookup t = some x):∀ i y,(flat (tv g.dy.out a t))[i]? = some y -> (ctx E g a w).conc (.slot t i) = some y:=fun i y hy=>hy
theorem Cell.val_sound {c:Ctx} {p:Place} {x:Cell} {u v:Value} {b:Bool} (h:CV c p x u) (hx:x.val? = some (b,v)):u = v:=by
 cases x <;> simp [Cell.val?] at hx
 ·obtain ⟨_,rfl⟩:=hx; exact h
 ·obtain ⟨_,rfl⟩:=hx; exact h
theorem SVR.val {c:Ctx} {pl:Nat -> Place} {x:SV} {u v:Value} {b:Bool} (h:SVR c pl x u) (hx:x.val? = some (b,v)):u = v /\ v.oneCell' = true:=by
 unfold SV.val? at hx;split at hx
 ·obtain ⟨h1,h2⟩:=h.one;have:=Cell.val_sound h2 hx;exact ⟨this,by rw [<- this]; exact h1⟩
 ·simp at hx
theorem exactCells_sound {c:Ctx} {pl:Nat -> Place}:∀ {cs:List Cell} {l us:List Value},exactCells cs = some l -> us.length = cs.length ->
  (∀ i x y,cs[i]? = some x -> us[i]? = some y -> y.oneCell' = true /\ CV c (pl i) x y) -> us = l
 | [],l,us,h,hl,_=>by simp [exactCells] at h; subst h; exact List.eq_nil_of_length_eq_zero (by simpa using hl)
 | x :: r,l,us,h,hl,hc=>by
  simp only [exactCells] at h;split at h
  ·rename_i b x' hx;cases h1:exactCells r with
   | none=>simp [h1] at h
   | some l'=>
    simp [h1] at h; subst h
    match us,hl with
    | u :: us,hl=>
     have h0:=Cell.val_sound (hc 0 _ u rfl rfl).2 hx;have hr:=exactCells_sound (c:=c) (pl:=fun i=>pl (i + 1)) h1 (us:=us) (by simpa using hl) (fun i x y hx hy=>hc (i + 1) x y (by simpa using hx) (by simpa using hy))
     rw [hr,h0]
  ·simp at h
theorem SVR.int {c:Ctx} {pl:Nat -> Place} {x:SV} {u:Value} {b:Bool} {k:IntKind} {n:Int} (h:SVR c pl x u) (hx:x.int? = some (b,k,n)):u = .int k n:=by
 unfold SV.int? at hx;split at hx
 ·rename_i hv;simp at hx; obtain ⟨rfl,rfl,rfl⟩:=hx;exact (h.val hv).1
 ·simp at hx
theorem SVR.bool {c:Ctx} {pl:Nat -> Place} {x:SV} {u:Value} {b b':Bool} (h:SVR c pl x u) (hx:x.bool? = some (b',b)):u = .bool b:=by
 unfold SV.bool? at hx;split at hx
 ·rename_i hv;simp at hx; obtain ⟨rfl,rfl⟩:=hx;exact (h.val hv).1
 ·simp at hx
theorem mkv_sound {c:Ctx} {pl:Nat -> Place} {kn:Bool} {v:Value} (h:v.oneCell' = true):SVR c pl (mkv kn v) v /\ (mkv kn v).cs.any Cell.isOwn = false:=by
 cases kn <;> exact ⟨SVR.of_one h rfl,rfl⟩
theorem DV.len' {w:World} {k:Nat -> Nat -> Prop} {t:Ty} {l:List t.T} {u:Value} (h:DV w k (.lst t l) u):∃ a cap,u = .slice a l.length cap:=by
 cases h with
 | emp t a cap hc=>exact ⟨a,cap,rfl⟩
 | lst t l b off cap f hc h1 hd hcap hm=>exact ⟨_,cap,rfl⟩
theorem CV.listV {c:Ctx} {p:Place} {x:Cell} {u:Value} {t:Ty} {xs:List t.T} (h:CV c p x u) (hx:x.list t = some xs):DV c.w c.k (.lst t xs) u:=by
 cases x <;> simp [Cell.list] at hx
 case nilS=>subst hx; rw [show u = _ from h]; exact .emp t none 0 (by simp [maxLen])
 case lst=>obtain ⟨rfl,hx⟩:=hx; subst hx; exact h
 case own=>obtain ⟨rfl,hx⟩:=hx; subst hx; exact h.2.1
 case ali=>obtain ⟨rfl,hx⟩:=hx; subst hx; exact h.2.2.1
theorem isAggT_run {t:TypeId} {b:Bool} (h:isAggT P t = some b) (w:World):(isAgg t).run P w = .ok b w:=by
 unfold isAggT at h;unfold isAgg;cases hu:P.underlying t with
 | none=>simp [hu] at h
 | some d=>cases d <;> simp [hu] at h <;> subst h <;> simp [Sem.run_bind,run_underlying hu]
theorem partSV_sound {c:Ctx} {pl:Nat -> Place} {t:TypeId} {cs:List Cell} {off:Nat} {v:SV} {us:List Value} (h:partSV P t cs off = some v) (hl:us.length = cs.length)
  (hc:∀ i x y,cs[i]? = some x -> us[i]? = some y -> y.oneCell' = true /\ CV c (pl i) x y) :
  ∃ u sz,isAggT P t = some v.sh.isAgg /\ (P.info? t).map (·.size) = some sz /\ SVR c (fun i=>pl (off + i)) v u /\ (v.sh.isAgg = true -> u = .agg ((us.drop off).take sz).toArray /\ off + sz <= us.length) /\ (v.sh.isAgg = false -> us[off]? = some u):=by
 unfold partSV at h;split at h
 ·rename_i i h1 h2;split at h
  ·rename_i hle;simp at h; subst h;refine ⟨.agg ((us.drop off).take i.size).toArray,i.size,h1,by simp [h2],?_,fun _=>⟨rfl,by omega⟩,fun h=>by simp [Shape.isAgg] at h⟩
   refine SVR.of_agg (by simp; omega) fun j x y hx hy=>?_
   rw [List.getElem?_take] at hx hy;split at hx
   ·rename_i hj;rw [if_pos hj] at hy;rw [List.getElem?_drop] at hx hy;exact hc _ x y hx hy
   ·simp at hx
  ·simp at h
 ·rename_i i h1 h2;split at h
  ·rename_i x hx;simp at h; subst h;have hlt:off < us.length:=by rw [hl]; exact (List.getElem?_eq_some_iff.1 hx).1
   obtain ⟨a1,a2⟩:=hc off x us[off] hx (List.getElem?_eq_getElem hlt);exact ⟨us[off],i.size,h1,by simp [h2],SVR.of_one a1 a2,fun h=>by simp [Shape.isAgg] at h,fun _=>List.getElem?_eq_getElem hlt⟩
  ·simp at h
 ·simp at h
end
end Go.Proofs.YthnagpmnoncijaaGreat.M
