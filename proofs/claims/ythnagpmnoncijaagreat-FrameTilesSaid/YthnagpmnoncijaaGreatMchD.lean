/- A part of the proof. -/
import Derived.Test.YthnagpmnoncijaaGreatMchC
import Derived.DeepKeys
import Derived.MapKept
set_option linter.unusedVariables false
namespace Go.Proofs.YthnagpmnoncijaaGreat.M
open Go Go.RowKit
variable {P:Program} {E:Env} {s:St} {a:Act} {w:World} {g:Gh} {o:Oper} {want:Bool} {h:Option Hint} {v:SV} {ob:Cnd} {pl:Nat -> Place}
def Runs (P:Program) (o:Oper) (a:Act) (w:World) (c:Ctx) (pl:Nat -> Place) (v:SV):Prop:=
 ∃ u,(execOp a.eval o).run P w = .ok (.value u) w /\ SVR c pl v u /\ v.cs.any Cell.isOwn = false
theorem Runs.mk {c:Ctx} {u:Value} (h1:(execOp a.eval o).run P w = .ok (.value u) w) (h2:SVR c pl v u) (h3:v.cs.any Cell.isOwn = false):Runs P o a w c pl v:=⟨u,h1,h2,h3⟩
theorem copied {u:Value} (hr:SVR (ctx E g a w) pl v u) {pl2:Nat -> Place}:SVR (ctx E g a w) pl2 ⟨v.sh,copyCells false (fun _=>.slot 0 0) 0 v.cs⟩ u /\ (copyCells false (fun _=>Place.slot 0 0) 0 v.cs).any Cell.isOwn = false:=
 ⟨SVR.copy (pl:=pl) (by cases v; exact hr) (fun h=>by cases h),copyCells_notOwn _ _⟩
theorem constSV_notOwn {c:Value} (h:constSV c = some v):v.cs.any Cell.isOwn = false:=(constSV_sound (c:=⟨default,fun _ _=>True,fun _=>.free,fun _=>0,fun _=>none,fun _ _=>True⟩) (pl:=.slot 0) h).2
theorem evalO_notOwn {x:Operand} (hx:∀ t,x ≠ .tmp t) (h:evalO s x = some v):v.cs.any Cell.isOwn = false:=by
 cases x with
 | tmp t=>exact absurd rfl (hx t)
 | const c=>exact constSV_notOwn h
 | func f=>simp [evalO] at h; subst h; rfl
 | global _=>simp [evalO] at h
theorem other_sound {x:Operand} (hx:∀ t,x ≠ .tmp t) (hrun:(execOp a.eval o).run P w = .ok (.value (a.eval x)) w) (hv:((evalO s x).map fun v=>(v,Cnd.ok)) = some (v,ob)) (hr:Rel E s a w g):Runs P o a w (ctx E g a w) pl v:=by
 cases hy:evalO s x with
 | none=>simp [hy] at hv
 | some y=>
  simp [hy] at hv;obtain ⟨rfl,_⟩:=hv;have ho:=evalO_notOwn hx hy;exact .mk hrun ((hr.eval hy).place ho) ho
theorem move_sound {x:Operand} (hop:o.op = .move x) (hv:aval P want h s (.move x) = some (v,ob)) (hr:Rel E s a w g):Runs P o a w (ctx E g a w) pl v:=by
 have hrun:(execOp a.eval o).run P w = .ok (.value (a.eval x)) w:=by simp [execOp,hop]
 cases x with
 | tmp t=>
  simp only [aval] at hv;cases hx:s.look t with
  | none=>simp [hx] at hv
  | some y=>
   simp [hx] at hv;obtain ⟨rfl,_⟩:=hv;obtain ⟨k1,k2⟩:=look_some hx;have k3:=hr.slots t _ k2;have k4:=hr.conc k2;rw [tv_own k1] at k3 k4;exact .mk hrun (SVR.copy (pl:=.slot t) (by cases y; exact k3) fun _=>⟨fun _=>rfl,k4⟩) (copyCells_notOwn _ _)
 | const c=>exact other_sound (by simp) hrun hv hr
 | func f=>exact other_sound (by simp) hrun hv hr
 | global n=>exact other_sound (by simp) hrun hv hr
theorem assign_sound {x:Operand} (hop:o.op = .assign x) (hv:aval P want h s (.assign x) = some (v,ob)) (hr:Rel E s a w g):Runs P o a w (ctx E g a w) pl v:=by
 have hrun:(execOp a.eval o).run P w = .ok (.value (a.eval x)) w:=by simp [execOp,hop]
 cases x with
 | tmp t=>
  simp only [aval] at hv;cases hx:s.look t with
  | none=>simp [hx] at hv
  | some y=>
   obtain ⟨k1,k2⟩:=look_some hx;have k3:=hr.slots t _ k2;rw [tv_own k1] at k3;simp only [hx] at hv;split at hv
   ·simp at hv
   ·rename_i ho;simp at hv;obtain ⟨rfl,_⟩:=hv;exact .mk hrun (SVR.copy (pl:=.slot t) (pl':=fun _=>.slot 0 0) (by cases y; exact k3) fun h=>by cases h) (copyCells_notOwn _ _)
 | const c=>exact other_sound (by simp) hrun hv hr
 | func f=>exact other_sound (by simp) hrun hv hr
 | global n=>exact other_sound (by simp) hrun hv hr
theorem asBool_run {b:Bool}:(asBool (.bool b)).run P w = .ok b w:=rfl
theorem pick_sound {c x y:Operand} (hop:o.op = .pick c x y) (hv:aval P want h s (.pick c x y) = some (v,ob)) (hr:Rel E s a w g):Runs P o a w (ctx E g a w) pl v:=by
 simp only [aval] at hv;split at hv
 ·rename_i hc;cases h1:evalO s c with
  | none=>simp [h1] at hc
  | some z=>
   simp [h1] at hc;have hb:=(hr.eval h1).bool hc;cases h2:evalO s x with
   | none=>simp [h2] at hv
   | some q=>
    simp [h2] at hv;obtain ⟨rfl,_⟩:=hv;obtain ⟨e1,e2⟩:=copied (hr.eval h2) (pl2:=pl);exact .mk (by simp [execOp,hop,hb,asBool_run]) e1 e2
 ·rename_i hc;cases h1:evalO s c with
  | none=>simp [h1] at hc
  | some z=>
   simp [h1] at hc;have hb:=(hr.eval h1).bool hc;cases h2:evalO s y with
   | none=>simp [h2] at hv
   | some q=>
    simp [h2] at hv;obtain ⟨rfl,_⟩:=hv;obtain ⟨e1,e2⟩:=copied (hr.eval h2) (pl2:=pl);exact .mk (by simp [execOp,hop,hb,asBool_run]) e1 e2
 ·simp at hv
theorem rangeAt_of_heap {b:Nat} {us:List Value} {e:TypeId} {fr:Nat × Nat} (hh:w.heap[b]? = some (.cells us.toArray e fr)) (off n:Nat):w.rangeAt b off ((us.drop off).take n):=by
 intro j x hx;simp only [World.cell?,hh];simp;rw [List.getElem?_take] at hx;split at hx
 ·rw [List.getElem?_drop] at hx; simpa using hx
 ·simp at hx
theorem loadAt_run {b off:Nat} {t:TypeId} {sz:Nat} {bb:Bool} {u:Value} (hagg:isAggT P t = some bb) (hsz:(P.info? t).map (·.size) = some sz)
  (h1:bb = true -> ∃ cs:List Value,u = .agg cs.toArray /\ cs.length = sz /\ w.rangeAt b off cs) (h2:bb = false -> w.cell? ⟨b,off,none⟩ = some u) :
  (Instr.loadAt t (.pointer (some ⟨b,off,none⟩))).run P w = .ok u w:=by
 cases bb with
 | true=>
  obtain ⟨cs,rfl,hl,hc⟩:=h1 rfl;unfold isAggT at hagg;cases hu:P.underlying t with
  | none=>simp [hu] at hagg
  | some d=>
   have hd:d.isRow = true:=by cases d <;> simp_all
   exact run_loadAt_mid w b off t cs d hc hu hd (by rw [hl]; exact hsz)
 | false=>
  have hl:=h2 rfl;have ha:=isAggT_run hagg w;simp [Instr.loadAt,Instr.sureAddr,loadVar,Sem.run_bind,ha,load,Sem.run,hl]
theorem F.get_some {α:Type} {l:List α} {i:Int} {x:α} (h:F.get l i = some x):0 <= i /\ l[i.toNat]? = some x:=by
 unfold F.get at h;split at h
 ·exact ⟨by assumption,h⟩
 ·cases h
theorem decC_sound {c:Ctx}:∀ {t:Ty} {cs r:List Cell} {x:t.T} {us:List Value} {pl:Nat -> Place},decC t cs = some (x,r) -> us.length = cs.length ->
  (∀ i x y,cs[i]? = some x -> us[i]? = some y -> y.oneCell' = true /\ CV c (pl i) x y) ->
  cs.length = t.n + r.length /\ r = cs.drop t.n /\ ∀ (i:Nat) d y,(enc t x)[i]? = some d -> us[i]? = some y -> y.oneCell' = true /\ DV c.w c.k d y
 | .unit,cs,r,x,us,pl,h,hl,hc=>by
  simp [decC] at h; subst h;simp [Ty.n,enc]
 | .pair a b,cs,r,x,us,pl,h,hl,hc=>by
  simp only [decC] at h;split at h
  ·rename_i x1 r1 h1;split at h
   ·rename_i x2 r2 h2;simp at h;obtain ⟨rfl,rfl⟩:=h;obtain ⟨a1,a2,a3⟩:=decC_sound (c:=c) (us:=us) (pl:=pl) h1 hl hc
    obtain ⟨b1,b2,b3⟩:=decC_sound (c:=c) (us:=us.drop a.n) (pl:=fun i=>pl (a.n + i)) h2 (by rw [List.length_drop]; omega) (fun i x y hx hy=>by
     rw [a2,List.getElem?_drop] at hx;rw [List.getElem?_drop] at hy
     exact hc _ x y hx hy)
    refine ⟨by simp [Ty.n]; omega,by rw [b2,a2,List.drop_drop,Ty.n],fun i d y hd hy=>?_⟩
    simp only [enc] at hd;by_cases hi:i < a.n
    ·rw [List.getElem?_append_left (by rw [enc_length]; exact hi)] at hd
     exact a3 i d y hd hy
    ·rw [List.getElem?_append_right (by rw [enc_length]; omega),enc_length] at hd
     exact b3 (i - a.n) d y hd (by rw [List.getElem?_drop]; rw [show a.n + (i - a.n) = i from by omega]; exact hy)
   ·simp at h
  ·simp at h
 | .int k,cs,r,x,us,pl,h,hl,hc=>by
  cases cs with
  | nil=>simp [decC] at h
  | cons c0 cs=>
   simp only [decC] at h;split at h
   ·rename_i b k' n hv;split at h
    ·rename_i hk;subst hk;simp at h;obtain ⟨rfl,rfl⟩:=h;refine ⟨by simp [Ty.n]; omega,by simp [Ty.n],fun i d y hd hy=>?_⟩
     cases i with
     | zero=>
      simp [enc] at hd; subst hd;obtain ⟨k1,k2⟩:=hc 0 c0 y rfl hy;have:=Cell.val_sound k2 hv;subst this;exact ⟨k1,.v _ k1⟩
     | succ i=>simp [enc] at hd
    ·simp at h
   ·simp at h
 | .bool,cs,r,x,us,pl,h,hl,hc=>by
  cases cs with
  | nil=>simp [decC] at h
  | cons c0 cs=>
   simp only [decC] at h;split at h
   ·rename_i b b' hv;simp at h;obtain ⟨rfl,rfl⟩:=h;refine ⟨by simp [Ty.n]; omega,by simp [Ty.n],fun i d y hd hy=>?_⟩
    cases i with
    | zero=>
     simp [enc] at hd; subst hd;obtain ⟨k1,k2⟩:=hc 0 c0 y rfl hy;have:=Cell.val_sound k2 hv;subst this;exact ⟨k1,.v _ k1⟩
    | succ i=>simp [enc] at hd
   ·simp at h
 | .str,cs,r,x,us,pl,h,hl,hc=>by
  cases cs with
  | nil=>simp [decC] at h
  | cons c0 cs=>
   simp only [decC] at h;split at h
   ·rename_i b b' hv;simp at h;obtain ⟨rfl,rfl⟩:=h;refine ⟨by simp [Ty.n]; omega,by simp [Ty.n],fun i d y hd hy=>?_⟩
    cases i with
    | zero=>
     simp [enc] at hd; subst hd;obtain ⟨k1,k2⟩:=hc 0 c0 y rfl hy;have:=Cell.val_sound k2 hv;subst this;exact ⟨k1,.v _ k1⟩
    | succ i=>simp [enc] at hd
   ·simp at h
 | .list t,cs,r,x,us,pl,h,hl,hc=>by
  cases cs with
  | nil=>simp [decC] at h
  | cons c0 cs=>
   simp only [decC] at h;split at h
   ·rename_i l hv;simp at h;obtain ⟨rfl,rfl⟩:=h;refine ⟨by simp [Ty.n]; omega,by simp [Ty.n],fun i d y hd hy=>?_⟩
    cases i with
    | zero=>
     simp [enc] at hd; subst hd;obtain ⟨k1,k2⟩:=hc 0 c0 y rfl hy;exact ⟨k1,k2.listV hv⟩
    | succ i=>simp [enc] at hd
   ·simp at h
theorem decAll_sound {c:Ctx} {t:Ty} {cs:List Cell} {x:t.T} {us:List Value} {pl:Nat -> Place} (h:decAll t cs = some x) (hl:us.length = cs.length)
  (hc:∀ i x y,cs[i]? = some x -> us[i]? = some y -> y.oneCell' = true /\ CV c (pl i) x y):cs.length = t.n /\ ∀ (i:Nat) d y,(enc t x)[i]? = some d -> us[i]? = some y -> y.oneCell' = true /\ DV c.w c.k d y:=by
 unfold decAll at h;split at h
 ·rename_i x' hd;injection h with h; subst h
  obtain ⟨a1,a2,a3⟩:=decC_sound hd hl hc;exact ⟨by simpa using a1,a3⟩
 ·cases h
theorem chunks_get (sz:Nat):∀ (n:Nat) (l:List Cell) (i:Nat) (e:List Cell),(chunks sz n l)[i]? = some e -> e = (l.drop (i * sz)).take sz
 | 0,_,i,e,h=>by simp [chunks] at h
 | n + 1,l,0,e,h=>by
  simp only [chunks,List.getElem?_cons_zero,Option.some.injEq] at h;subst h; simp
 | n + 1,l,i + 1,e,h=>by
  simp only [chunks,List.getElem?_cons_succ] at h;have:=chunks_get sz n (l.drop sz) i e h;rw [List.drop_drop] at this;rw [this,Nat.succ_mul,Nat.add_comm sz]
theorem chunks_length (sz:Nat):∀ (n:Nat) (l:List Cell),(chunks sz n l).length = n
 | 0,_=>rfl
 | n + 1,l=>by simp [chunks,chunks_length sz n]
theorem decs_get {t:Ty}:∀ {l:List (List Cell)} {xs:List t.T},decs t l = some xs -> xs.length = l.length /\ ∀ (i:Nat) x c,xs[i]? = some x -> l[i]? = some c -> decAll t c = some x
 | [],xs,h=>by simp [decs] at h; subst h; simp
 | c :: r,xs,h=>by
  simp only [decs] at h;split at h
  ·rename_i x hx;split at h
   ·rename_i l' hl';injection h with h; subst h
    obtain ⟨a1,a2⟩:=decs_get hl';refine ⟨by simp [a1],fun i y c' hy hc=>?_⟩
    cases i with
    | zero=>simp at hy hc; subst hy hc; exact hx
    | succ i=>exact a2 i y c' (by simpa using hy) (by simpa using hc)
   ·cases h
  ·cases h
theorem toC_sound {c:Ctx} {p:Place} {d:D} {y:Value} (h:DV c.w c.k d y):CV c p d.toC y:=by
 cases d with
 | v x=>cases h; rfl
 | lst t l=>exact h
 | clo f dss=>exact DV.fn h
theorem toC_notOwn {ds:List D}:(ds.map D.toC).any Cell.isOwn = false:=by
 rw [List.any_eq_false];intro x hx;obtain ⟨d,_,rfl⟩:=List.mem_map.1 hx;cases d <;> simp [D.toC,Cell.isOwn]
theorem decsChunks {c:Ctx} {t:Ty} {len:Nat} {cs:List Cell} {us:List Value} {pl:Nat -> Place} {xs:List t.T} {i:Nat} {x:t.T} (h:decs t (chunks t.n len cs) = some xs) (hl:us.length = cs.length) (hlen:cs.length = len * t.n)
  (hc:∀ i x y,cs[i]? = some x -> us[i]? = some y -> y.oneCell' = true /\ CV c (pl i) x y) (hx:xs[i]? = some x) :
  i < len /\ ∀ (j:Nat) d y,(enc t x)[j]? = some d -> us[i * t.n + j]? = some y -> y.oneCell' = true /\ DV c.w c.k d y:=by
 obtain ⟨a1,a2⟩:=decs_get h;rw [chunks_length] at a1;have hi:i < len:=by have:=(List.getElem?_eq_some_iff.1 hx).1; omega
 obtain ⟨ch,hch⟩:∃ ch,(chunks t.n len cs)[i]? = some ch:=⟨_,List.getElem?_eq_getElem (by rw [chunks_length]; exact hi)⟩
 have hd:=a2 i x ch hx hch;have he:=chunks_get t.n len cs i ch hch;subst he;have hle:i * t.n + t.n <= len * t.n:=by rw [<- Nat.succ_mul]; exact Nat.mul_le_mul_right _ hi
 obtain ⟨b1,b2⟩:=decAll_sound (c:=c) (us:=(us.drop (i * t.n)).take t.n) (pl:=fun j=>pl (i * t.n + j)) hd (by simp; omega) (fun j x y hx hy=>by
  rw [List.getElem?_take] at hx hy;split at hx
  ·rename_i hj; rw [if_pos hj] at hy; rw [List.getElem?_drop] at hx hy; exact hc _ x y hx hy
  ·simp at hx)
 refine ⟨hi,fun j d y hdj hy=>b2 j d y hdj ?_⟩
 have hj:j < t.n:=by have:=(List.getElem?_eq_some_iff.1 hdj).1; rw [enc_length] at this; exact this
 rw [List.getElem?_take,if_pos hj,List.getElem?_drop];exact hy
theorem elemDP {c:Ctx} {ds:List D} {b off:Nat} {t:Ty} {len i:Nat} {xs:List t.T} {x:t.T} (hc:DPV c.w c.kp c.k b off ds) (hln:len * t.n <= ds.length)
  (h:decs t (chunks t.n len ((ds.map D.toC).take (len * t.n))) = some xs) (hx:xs[i]? = some x):i < len /\ DPV c.w c.kp c.k b (off + i * t.n) (enc t x):=by
 let us:List Value:=((List.range ds.length).map fun j=>(c.w.cell? ⟨b,off + j,none⟩).getD undef).take (len * t.n)
 have hus:∀ j,j < len * t.n -> us[j]? = some ((c.w.cell? ⟨b,off + j,none⟩).getD undef):=fun j hj=>by
  simp only [us];rw [List.getElem?_take,if_pos hj,List.getElem?_map,List.getElem?_range (by omega)]
  rfl
 have hl:((ds.map D.toC).take (len * t.n)).length = len * t.n:=by simp; omega
 obtain ⟨c1,c2⟩:=decsChunks (c:=c) (us:=us) (pl:=fun q=>.box 0 q) h (by rw [hl]; simp [us]; omega) hl (fun j z y hz hy=>by
  rw [List.getElem?_take] at hz;split at hz
  ·rename_i hj;rw [hus j hj] at hy;injection hy with hy;rw [List.getElem?_map] at hz;cases hd:ds[j]? with
   | none=>rw [hd] at hz; cases hz
   | some d=>
    rw [hd] at hz; injection hz with hz; subst hz
    obtain ⟨v,e1,_,e3,e4⟩:=hc j d hd;rw [e1] at hy;simp at hy; subst hy;exact ⟨e3,toC_sound e4⟩
  ·simp at hz) hx
 have hle:i * t.n + t.n <= len * t.n:=by rw [<- Nat.succ_mul]; exact Nat.mul_le_mul_right _ c1
 refine ⟨c1,fun j d hd=>?_⟩
 have hj:j < t.n:=by have:=(List.getElem?_eq_some_iff.1 hd).1; rwa [enc_length] at this
 obtain ⟨v,e1,e2,_,_⟩:=hc (i * t.n + j) _ (List.getElem?_eq_getElem (by omega))
 obtain ⟨d1,d2⟩:=c2 j d v hd (by rw [hus _ (by omega),e1]; rfl)
 exact ⟨v,by rw [Nat.add_assoc]; exact e1,by rw [Nat.add_assoc]; exact e2,d1,d2⟩
theorem some_pair {x y:SV} {p q:Cnd} (h:some (x,p) = some (y,q)):x = y /\ p = q:=by
 injection h with h;injection h with h1 h2;exact ⟨h1,h2⟩
theorem DV.elem {w:World} {k:Nat -> Nat -> Prop} {base:Nat} {lent:Nat -> Prop} {t:Ty} {xs:List t.T} {u:Value} (hd:DV w k (.lst t xs) u) {i:Nat} {e:t.T} (he:xs[i]? = some e) :
  ∃ b off cap,u = .slice (some ⟨b,off,none⟩) xs.length cap /\ DPV w (kpOf base lent k) k b (off + i * t.n) (enc t e):=by
 cases hd with
 | emp=>simp at he
 | lst t xs b off cap u' hc h1 hdd hcap hm=>
  have hi:=(List.getElem?_eq_some_iff.1 he).1;refine ⟨b,off,cap,rfl,fun j d hd=>?_⟩
  have hj:=(List.getElem?_eq_some_iff.1 hd).1;rw [enc_length] at hj;obtain ⟨c1,c2⟩:=hc i j hi hj;exact ⟨_,c1,.inr c2,h1 i j hi hj,hdd i j e d he hd⟩
theorem Rel.at_sound (hr:Rel E s a w g) {q:Place} {c:Cell} (h:s.at? q = some c):∃ u,(ctx E g a w).conc q = some u /\ CV (ctx E g a w) q c u:=by
 cases q with
 | slot t j=>
  simp only [St.at?] at h;split at h
  ·rename_i v hv;obtain ⟨us,e1,e2,e3,e4⟩:=hr.slots t v hv;have hj:=(List.getElem?_eq_some_iff.1 h).1;have hu:us[j]? = some us[j]:=List.getElem?_eq_getElem (by omega)
   refine ⟨us[j],?_,(e4 j c _ h hu).2⟩;show (flat (tv g.dy.out a t))[j]? = _;rw [e2]; exact hu
  ·cases h
 | box n j=>
  simp only [St.at?] at h;split at h
  ·rename_i e cs hv;obtain ⟨us,e1,e3,e4⟩:=hr.norm hv;have hj:=(List.getElem?_eq_some_iff.1 h).1;have hu:us[j]? = some us[j]:=List.getElem?_eq_getElem (by omega)
   refine ⟨us[j],?_,(e4 j c _ h hu).2⟩;show w.cell? ⟨g.ι n,j,none⟩ = _;simp [World.cell?,e1]
  ·cases h
theorem load_dp {t:TypeId} {x:Operand} {ds:List D} {b off:Nat} {y:SV} (hop:o.op = .load t x) (hptr:a.eval x = .pointer (some ⟨b,off,none⟩)) (hcs:DPV w (ctx E g a w).kp (ctx E g a w).k b off ds) (hp:partSV P t (ds.map D.toC) 0 = some y):Runs P o a w (ctx E g a w) pl y:=by
 let us:List Value:=(List.range ds.length).map fun j=>(w.cell? ⟨b,off + j,none⟩).getD undef
 have hus:∀ j y,us[j]? = some y -> j < ds.length /\ w.cell? ⟨b,off + j,none⟩ = some y:=fun j y hy=>by
  simp [us,List.getElem?_map] at hy;obtain ⟨k,hk,rfl⟩:=hy;have hlt:=(List.getElem?_eq_some_iff.1 hk).1;simp at hlt;simp [List.getElem?_range hlt] at hk;subst hk;obtain ⟨z,hz,_⟩:=hcs j _ (List.getElem?_eq_getElem hlt);exact ⟨hlt,by rw [hz]; rfl⟩
 have hC:∀ i x y,(ds.map D.toC)[i]? = some x -> us[i]? = some y -> y.oneCell' = true /\ CV (ctx E g a w) (pl i) x y:=fun i x' y hx' hy=>by
  obtain ⟨hi,hc⟩:=hus i y hy;simp at hx';obtain ⟨d,hd,rfl⟩:=hx';obtain ⟨z,hz,_,h1,hD⟩:=hcs i d hd;rw [hc] at hz; simp at hz; subst hz;refine ⟨h1,?_⟩;cases d with
  | v x=>cases hD; rfl
  | lst t l=>exact hD
  | clo f dss=>exact DV.fn hD
 obtain ⟨u,sz,k1,k2,k3,k4,k5⟩:=partSV_sound (pl:=pl) hp (us:=us) (by simp [us]) hC
 have hno:y.cs.any Cell.isOwn = false:=by
  have key:∀ c ∈ ds.map D.toC,c.isOwn = false:=fun c hc=>by
   simp at hc; obtain ⟨d,_,rfl⟩:=hc; cases d <;> rfl
  unfold partSV at hp;rw [List.any_eq_false];intro c hc;split at hp
  ·split at hp
   ·simp at hp; subst hp;have hm:c ∈ ds.map D.toC:=by first | exact List.mem_of_mem_take hc | exact List.mem_of_mem_drop (List.mem_of_mem_take hc)
    simpa using key c hm
   ·simp at hp
  ·split at hp
   ·rename_i c' hc';simp at hp; subst hp;simp at hc; subst hc;simpa using key _ (List.mem_of_getElem? hc')
   ·simp at hp
  ·simp at hp
 refine ⟨u,?_,by simpa using k3,hno⟩
 simp only [execOp,hop,hptr,Sem.run_bind];rw [loadAt_run k1 k2 (fun ht=>⟨_,(k4 ht).1,by have:=(k4 ht).2; simp; simp at this; omega,fun j z hz=>?_⟩) (fun hf=>?_)]
 ·rfl
 ·have hz':=hz;rw [List.getElem?_take] at hz';split at hz'
  ·simp only [List.drop_zero] at hz'; exact (hus j z hz').2
  ·simp at hz'
 ·have:=(hus 0 u (k5 hf)).2;simpa using this
theorem load_sound {t:TypeId} {x:Operand} (hop:o.op = .load t x) (hv:aval P want h s (.load t x) = some (v,ob)) (hob:ob.P) (hr:Rel E s a w g):Runs P o a w (ctx E g a w) pl v:=by
 simp only [aval] at hv;split at hv
 ·rename_i n off hx;cases hb:s.box? n with
  | none=>simp [hb] at hv
  | some q=>
   obtain ⟨e,cs⟩:=q;simp only [hb] at hv;cases hp:partSV P t cs off with
   | none=>simp [hp] at hv
   | some y=>
    simp [hp] at hv;obtain ⟨rfl,_⟩:=hv;have hptr:a.eval x = .pointer (some ⟨g.ι n,off,none⟩):=(hr.eval hx).one.2;obtain ⟨us,hh,hl,hcs⟩:=hr.norm hb;obtain ⟨u,sz,k1,k2,k3,k4,k5⟩:=partSV_sound hp hl hcs;refine ⟨u,?_,SVR.copy (pl:=fun i=>.box n (off + i)) (by cases y; exact k3) (fun _=>⟨fun _=>rfl,fun i z hz=>?_⟩),copyCells_notOwn _ _⟩
    ·simp only [execOp,hop,hptr,Sem.run_bind];rw [loadAt_run k1 k2 (fun ht=>⟨_,(k4 ht).1,by have:=(k4 ht).2; simp; omega,rangeAt_of_heap hh off sz⟩) (fun hf=>by simp [World.cell?,hh,k5 hf])]
     rfl
    ·show w.cell? ⟨g.ι n,off + i,none⟩ = some z;simp [World.cell?,hh];cases hs:y.sh.isAgg with
     | true=>
      rw [(k4 hs).1] at hz;simp [flat,List.getElem?_take] at hz;obtain ⟨_,hz⟩:=hz;exact hz
     | false=>
      obtain ⟨vs,_,hf,hvl,_⟩:=k3;have h5:=k5 hs;have h1:u.oneCell' = true:=by
       have hlt:=(List.getElem?_eq_some_iff.1 h5).1;exact (hcs off _ u (List.getElem?_eq_getElem (by omega)) h5).1
      rw [flat_one h1] at hz;cases i with
      | zero=>simp at hz; subst hz; exact h5
      | succ i=>simp at hz
 ·rename_i ds hx;cases hp:partSV P t (ds.map D.toC) 0 with
  | none=>simp [hp] at hv
  | some y=>
   simp [hp] at hv;obtain ⟨rfl,_⟩:=hv;obtain ⟨b,off,hptr,hcs⟩:=(hr.eval hx).one.2;exact load_dp hop hptr hcs hp
 ·rename_i n off ty len i fo hx;split at hv
  ·rename_i e cs t' x' hb;split at hv
   ·rename_i xs hxs;split at hv
    ·rename_i hsz;obtain ⟨rfl,hln⟩:=hsz;cases hp:partSV P t ((enc t' x').map D.toC) fo with
     | none=>simp [hp] at hv
     | some y=>
      simp [hp] at hv;obtain ⟨rfl,rfl⟩:=hv;obtain ⟨b0,b1⟩:=F.get_some hob;obtain ⟨hptr,hb0,hb1⟩:=(hr.eval hx).one.2;have hptr:a.eval x = .pointer (some ⟨g.ι n,off + i.toNat * t'.n + fo,none⟩):=hptr;obtain ⟨us,hh,hl,hcs⟩:=hr.norm hb;have hlen2:((cs.drop off).take (len * t'.n)).length = len * t'.n:=by simp; omega
      obtain ⟨c1,c2⟩:=decsChunks (c:=ctx E g a w) (us:=(us.drop off).take (len * t'.n)) (pl:=fun q=>.box n (off + q)) hxs (by simp [hl]) hlen2 (fun q z z' hz hz'=>by
       rw [List.getElem?_take] at hz hz';split at hz
       ·rename_i hq; rw [if_pos hq] at hz'; rw [List.getElem?_drop] at hz hz'; exact hcs _ z z' hz hz'
       ·simp at hz) b1
      have hle:i.toNat * t'.n + t'.n <= len * t'.n:=by rw [<- Nat.succ_mul]; exact Nat.mul_le_mul_right _ c1
      let es:List Value:=(us.drop (off + i.toNat * t'.n)).take t'.n
      have hes:∀ q:Nat,q < t'.n -> es[q]? = us[off + i.toNat * t'.n + q]?:=fun q hq=>by
       simp only [es];rw [List.getElem?_take,if_pos hq,List.getElem?_drop]
      have hC:∀ q z z',((enc t' x').map D.toC)[q]? = some z -> es[q]? = some z' -> z'.oneCell' = true /\ CV (ctx E g a w) (pl (q - fo)) z z':=fun q z z' hz hz'=>by
       rw [List.getElem?_map] at hz;cases hq:(enc t' x')[q]? with
       | none=>rw [hq] at hz; cases hz
       | some d=>
        rw [hq] at hz; injection hz with hz; subst hz
        have hqn:q < t'.n:=by have:=(List.getElem?_eq_some_iff.1 hq).1; rwa [enc_length] at this
        rw [hes q hqn] at hz';obtain ⟨d1,d2⟩:=c2 q d z' hq (by rw [List.getElem?_take,if_pos (by omega),List.getElem?_drop,<- Nat.add_assoc]; exact hz')
        exact ⟨d1,toC_sound d2⟩
      obtain ⟨u,sz,k1,k2,k3,k4,k5⟩:=partSV_sound (pl:=fun q=>pl (q - fo)) hp (us:=es) (by simp [es,enc_length]; omega) hC
      have hesl:es.length = t'.n:=by simp [es]; omega
      refine ⟨u,?_,by simpa [Nat.add_sub_cancel_left] using k3,by
       have key:∀ c ∈ (enc t' x').map D.toC,c.isOwn = false:=fun c hc=>by
        simp at hc; obtain ⟨d,_,rfl⟩:=hc; cases d <;> rfl
       unfold partSV at hp;rw [List.any_eq_false];intro c hc;split at hp
       ·split at hp
        ·simp at hp; subst hp;have hm:c ∈ (enc t' x').map D.toC:=List.mem_of_mem_drop (List.mem_of_mem_take hc);simpa using key c hm
        ·simp at hp
       ·split at hp
        ·rename_i c' hc';simp at hp; subst hp;simp at hc; subst hc;simpa using key _ (List.mem_of_getElem? hc')
        ·simp at hp
       ·simp at hp⟩
      simp only [execOp,hop,hptr,Sem.run_bind];rw [loadAt_run k1 k2 (fun ht=>⟨_,(k4 ht).1,by have:=(k4 ht).2; rw [hesl] at this; rw [List.length_take,List.length_drop,hesl]; omega,fun j z hz=>?_⟩) (fun hf=>?_)]
      ·rfl
      ·have hz':=hz;rw [List.getElem?_take] at hz';split at hz'
       ·rw [List.getElem?_drop] at hz';have hq:fo + j < t'.n:=by have:=(List.getElem?_eq_some_iff.1 hz').1; omega
        rw [hes _ hq] at hz';simp only [World.cell?,hh];rw [<- Nat.add_assoc] at hz';simpa using hz'
       ·simp at hz'
      ·have h5:=k5 hf;have hq:fo < t'.n:=by have:=(List.getElem?_eq_some_iff.1 h5).1; omega
       rw [hes _ hq] at h5;simp only [World.cell?,hh];simpa using h5
    ·simp at hv
   ·simp at hv
  ·rename_i x' _;split at hv
   ·rename_i e l y hb hp;split at hv
    ·rename_i hcd;obtain ⟨rfl,rfl,rfl,hag⟩:=hcd;injection hv with hv;injection hv with h1 h2;subst h1; subst h2;obtain ⟨b0,b1⟩:=F.get_some hob;obtain ⟨hptr,hb0,hb1⟩:=(hr.eval hx).one.2;have hptr:a.eval x = .pointer (some ⟨g.ι n,0 + i.toNat * Ty.bool.n + 0,none⟩):=hptr;have hh:=(hr.arr hb).2
     obtain ⟨u,sz,k1,k2,k3,k4,k5⟩:=partSV_sound (c:=ctx E g a w) (pl:=fun q=>pl q) (us:=[.bool x']) hp rfl (fun i z z' hz hz'=>by
      cases i with
      | zero=>simp at hz hz'; subst hz; subst hz'; exact ⟨rfl,rfl⟩
      | succ i=>simp at hz)
     have hu:u = .bool x':=by have:=k5 hag; simp at this; exact this.symm
     subst hu;refine ⟨.bool x',?_,by simpa using k3,?_⟩
     ·simp only [execOp,hop,hptr,Sem.run_bind];rw [loadAt_run k1 k2 (fun ht=>by rw [hag] at ht; cases ht) (fun hf=>?_)]
      ·rfl
      ·simp only [World.cell?,hh];simp [Ty.n,b1]
     ·unfold partSV at hp;rw [List.any_eq_false];intro c hc;split at hp
      ·split at hp
       ·simp at hp; subst hp;have hm:c ∈ [Cell.v (.bool x')]:=List.mem_of_mem_take hc;rw [List.mem_singleton.1 hm]; simp [Cell.isOwn]
       ·simp at hp
      ·split at hp
       ·rename_i c' hc';simp at hp; subst hp;simp at hc; subst hc;have hm:=List.mem_of_getElem? hc';rw [List.mem_singleton.1 hm]; simp [Cell.isOwn]
       ·simp at hp
      ·simp at hp
    ·simp at hv
   ·simp at hv
  ·simp at hv
 ·rename_i q ty i fo hx;split at hv
  ·rename_i c t' x' hat;split at hv
   ·rename_i xs hl ho;split at hv
    ·rename_i htt;subst htt;cases hp:partSV P t (((enc t' x').drop fo).map D.toC) 0 with
     | none=>rw [hp] at hv; simp at hv
     | some y=>
      rw [hp] at hv;obtain ⟨rfl,rfl⟩:=some_pair hv;obtain ⟨b0,b1⟩:=F.get_some hob;obtain ⟨b,len,cap,h0,e1,h1⟩:=(hr.eval hx).one.2;obtain ⟨u,e2,e3⟩:=hr.at_sound hat;rw [h0] at e2;injection e2 with e2;subst e2;obtain ⟨b',off,cap',e4,hc⟩:=(e3.listV hl).elem b1;injection e4 with e4 e5 e6;injection e4 with e4;injection e4 with e4 e7;subst e4; subst e7;rw [Nat.zero_add] at hc;exact load_dp hop e1 hc.drop hp
    ·simp at hv
   ·simp at hv
  ·simp at hv
 ·simp at hv
theorem nilCheck_sound {x:Operand} (hop:o.op = .nilCheck x) (hv:aval P want h s (.nilCheck x) = some (v,ob)) (hr:Rel E s a w g):Runs P o a w (ctx E g a w) pl v:=by
 simp only [aval] at hv;split at hv
 ·rename_i n off hx;simp at hv; obtain ⟨rfl,_⟩:=hv;have hp:a.eval x = .pointer (some ⟨g.ι n,off,none⟩):=(hr.eval hx).one.2;exact .mk (u:=.pointer (some ⟨g.ι n,off,none⟩)) (by simp [execOp,hop,hp]) (SVR.of_one rfl rfl) rfl
 ·rename_i ds hx;simp at hv; obtain ⟨rfl,_⟩:=hv;obtain ⟨b,off,hp,hc⟩:=(hr.eval hx).one.2;exact .mk (u:=.pointer (some ⟨b,off,none⟩)) (by simp [execOp,hop,hp]) (SVR.of_one rfl ⟨b,off,rfl,hc⟩) rfl
 ·rename_i n off ty len i fo hx;simp at hv; obtain ⟨rfl,_⟩:=hv;obtain ⟨hp,hb⟩:=(hr.eval hx).one.2;exact .mk (u:=.pointer (some ⟨g.ι n,off + i.toNat * ty.n + fo,none⟩)) (by simp [execOp,hop,show a.eval x = _ from hp]; rfl) (SVR.of_one rfl ⟨rfl,hb⟩) rfl
 ·rename_i q ty i fo hx;simp at hv; obtain ⟨rfl,_⟩:=hv;obtain ⟨b,len,cap,h0,hp,hb⟩:=(hr.eval hx).one.2;exact .mk (u:=.pointer (some ⟨b,i.toNat * ty.n + fo,none⟩)) (by simp [execOp,hop,show a.eval x = _ from hp]) (SVR.of_one rfl ⟨b,len,cap,h0,rfl,hb⟩) rfl
 ·rename_i f c hx;simp at hv; obtain ⟨rfl,_⟩:=hv;have hp:=(hr.eval hx).one.2;refine ⟨a.eval x,?_,SVR.of_one (hr.eval hx).one.1 hp,rfl⟩;rw [show a.eval x = _ from hp];simp [execOp,hop,show a.eval x = _ from hp]
 ·rename_i f c hx;simp at hv; obtain ⟨rfl,_⟩:=hv;have hp:=(hr.eval hx).one.2;refine ⟨a.eval x,?_,SVR.of_one (hr.eval hx).one.1 hp,rfl⟩;obtain ⟨as,e,_⟩:=hp;rw [e];simp [execOp,hop,e]
 ·simp at hv
theorem eqGuard_one {op:BinOp} {t:TypeId} {x y:Operand} {u z:Value} (h1:u.oneCell' = true) (h2:u ≠ .nilIface):(eqGuard op t x y u z).run P w = .ok () w:=by
 unfold eqGuard;cases op <;> first | rfl | (cases u <;> first | (exact absurd rfl h2) | (simp [Value.oneCell'] at h1; done) | (cases z <;> rfl))
theorem binOp_run {op:BinOp} {t yt:TypeId} {x y:Operand} {p q r:Value} (hop:o.op = .binOp op t x y yt) (hx:a.eval x = p) (hy:a.eval y = q) (h1:p.oneCell' = true) (h2:p ≠ .nilIface) (hb:(binOp op t p q).run P w = .ok r w) :
  (execOp a.eval o).run P w = .ok (.value r) w:=by
 simp only [execOp,hop,hx,hy,Sem.run_bind];rw [eqGuard_one h1 h2];simp only [Result.andThen_ok,hb];rfl
theorem equalIn_bool {d:Nat} {t:TypeId} {p q:Bool} (hu:P.underlying t = some .bool):(Op.equalIn (d + 1) t (.bool p) (.bool q)).run P w = .ok (p == q) w:=by
 simp [Op.equalIn,run_underlying hu]
theorem equalIn_func {d:Nat} {t:TypeId} {f:Fn} {x y:Array Value} {ps rs:Array TypeId} {b:Bool} (hu:P.underlying t = some (.func ps rs b)):(Op.equalIn (d + 1) t (.func f x y) .nilFunc).run P w = .ok false w:=by
 simp [Op.equalIn,run_underlying hu]
theorem eql_run {t:TypeId} {p q:Value} {b:Bool} (hb:binOp .eql t p q = (do pure (.bool (<- Op.equal t p q)):Sem Value)) (h:(Op.equalIn (9999 + 1) t p q).run P w = .ok b w):(binOp .eql t p q).run P w = .ok (.bool b) w:=by
 rw [hb,Sem.run_bind,show Op.equal t p q = Op.equalIn (9999 + 1) t p q from rfl,h];rfl
theorem neq_run {t:TypeId} {p q:Value} {b:Bool} (hb:binOp .neq t p q = (do pure (.bool (!(<- Op.equal t p q))):Sem Value)) (h:(Op.equalIn (9999 + 1) t p q).run P w = .ok b w):(binOp .neq t p q).run P w = .ok (.bool !b) w:=by
 rw [hb,Sem.run_bind,show Op.equal t p q = Op.equalIn (9999 + 1) t p q from rfl,h];rfl
theorem intBin_sound {op:BinOp} {t yt:TypeId} {x y:Operand} {kn kb:Bool} {k k':IntKind} {p q:Int} (hop:o.op = .binOp op t x y yt) (e1:a.eval x = .int k p) (e2:a.eval y = .int k' q)
  (hv:intBin op kn kb k k' p q = some (v,ob)) (hob:ob.P) (c:Ctx):Runs P o a w c pl v:=by
 have fin:∀ {r:Value},r.oneCell' = true -> (binOp op t (.int k p) (.int k' q)).run P w = .ok r w -> v = mkv kn r -> Runs P o a w c pl v:=fun h1 h2 h3=>by
  subst h3;obtain ⟨m1,m2⟩:=mkv_sound (c:=c) (pl:=pl) (kn:=kn) h1;exact .mk (binOp_run hop e1 e2 rfl (by simp) h2) m1 m2
 unfold intBin at hv;split at hv
 ·split at hv
  ·split at hv
   ·rename_i h0;obtain ⟨rfl,rfl⟩:=some_pair hv;exact fin rfl (by simp [binOp,Op.shift,show ¬ q < 0 from by omega]; rfl) rfl
   ·simp at hv
  ·obtain ⟨rfl,rfl⟩:=some_pair hv;have h0:0 <= q:=by simpa [Cnd.P,F.nonneg] using hob
   exact fin rfl (by simp [binOp,Op.shift,show ¬ q < 0 from by omega]; rfl) rfl
 ·split at hv
  ·split at hv
   ·rename_i h0;obtain ⟨rfl,rfl⟩:=some_pair hv;exact fin rfl (by simp [binOp,Op.shift,show ¬ q < 0 from by omega]; rfl) rfl
   ·simp at hv
  ·obtain ⟨rfl,rfl⟩:=some_pair hv;have h0:0 <= q:=by simpa [Cnd.P,F.nonneg] using hob
   exact fin rfl (by simp [binOp,Op.shift,show ¬ q < 0 from by omega]; rfl) rfl
 ·split at hv
  ·rename_i hk;subst hk;split at hv
   case h_4=>
    split at hv
    ·split at hv
     ·rename_i h0;obtain ⟨rfl,rfl⟩:=some_pair hv;exact fin rfl (by simp [binOp,Op.intDiv,h0]; rfl) rfl
     ·simp at hv
    ·obtain ⟨rfl,rfl⟩:=some_pair hv;have h0:q ≠ 0:=by simpa [Cnd.P,F.nonzero] using hob
     exact fin rfl (by simp [binOp,Op.intDiv,h0]; rfl) rfl
   case h_5=>
    split at hv
    ·split at hv
     ·rename_i h0;obtain ⟨rfl,rfl⟩:=some_pair hv;exact fin rfl (by simp [binOp,Op.intDiv,h0]; rfl) rfl
     ·simp at hv
    ·obtain ⟨rfl,rfl⟩:=some_pair hv;have h0:q ≠ 0:=by simpa [Cnd.P,F.nonzero] using hob
     exact fin rfl (by simp [binOp,Op.intDiv,h0]; rfl) rfl
   all_goals first
    | (obtain ⟨rfl,rfl⟩:=some_pair hv; exact fin rfl (by simp [binOp]; rfl) rfl)
    | simp at hv
  ·simp at hv
theorem andO_some {a b:Option Bool} {r:Bool} (h:andO a b = some r):∃ x y,a = some x /\ b = some y /\ r = (x && y):=by
 unfold andO at h;split at h
 ·injection h with h; exact ⟨_,_,rfl,rfl,h.symm⟩
 ·cases h
theorem eqAt_sound:∀ (m k:Nat) (t:TypeId) (x y:Value) (r:Bool) (w:World),eqAt P m t x y = some r -> (Op.equalIn (m + k) t x y).run P w = .ok r w
 | 0,_,_,_,_,_,_,h=>by simp [eqAt] at h
 | m + 1,k,t,x,y,r,w,h=>by
  rw [show m + 1 + k = (m + k) + 1 from by omega]
  unfold eqAt at h;split at h
  ·rename_i hu;injection h with h; subst h
   exact run_equalIn_bool' w (m + k) t _ _ hu
  ·rename_i hu;split at h
   ·rename_i hk; subst hk;injection h with h; subst h
    exact run_equalIn_int w (m + k) t _ _ _ _ hu
   ·cases h
  ·rename_i hu;injection h with h; subst h
   exact run_equalIn_string w (m + k) t _ _ hu
  ·rename_i fs xs ys hu;split at h
   ·cases h
   ·rename_i hs;have hf:P.fieldsOf t = fs:=by simp [Program.fieldsOf,hu]
    rw [run_equalIn_struct w (m + k) t xs ys (by rw [hf]; exact hu) hs,hf]
    generalize fs.toList = l at h ⊢;induction l generalizing r with
    | nil=>simp [eqFs] at h; subst h; simp [Op.eqFields]
    | cons f l ih=>
     simp only [eqFs] at h;split at h
     ·cases h
     ·rename_i hn;have hn':f.name ≠ "_":=by simpa using hn
      have one:∀ p,(match evalP P (part f.type xs f.offset),evalP P (part f.type ys f.offset) with
       | some a,some b=>eqAt P m f.type a b
       | _,_=>none) = some p -> (Op.eqFields (m + k) xs ys (f :: l)).run P w = (if p then (Op.eqFields (m + k) xs ys l).run P w else .ok false w):=fun p h1=>by
       split at h1
       ·rename_i a b ha hb;rw [Op.eqFields];simp only [if_pos hn',Sem.run_bind,evalP_run ha w,evalP_run hb w,eqAt_sound m k f.type a b p w h1,Result.andThen_ok];cases p <;> simp
       ·cases h1
      split at h
      ·rw [one r h];cases r <;> simp [Op.eqFields]
      ·rename_i q1 q2;obtain ⟨p,q,h1,h2,rfl⟩:=andO_some h;rw [one p h1];cases p
       ·simp
       ·simpa using ih q h2
  ·rename_i n e xs ys hu;split at h
   ·rename_i j hj;rw [run_equalIn_array w (m + k) xs ys hu hj];have hsz:P.cellsOf e = j.size:=by simp [Program.cellsOf,hj]
    generalize List.range n = l at h ⊢
    have one:∀ i l p,(match evalP P (part e xs (i * j.size)),evalP P (part e ys (i * j.size)) with
       | some a,some b=>eqAt P m e a b
       | _,_=>none) = some p -> (Op.eqItems (m + k) e (P.cellsOf e) xs ys (i :: l)).run P w = (if p then (Op.eqItems (m + k) e (P.cellsOf e) xs ys l).run P w else .ok false w):=fun i l p h1=>by
     split at h1
     ·rename_i a b ha hb;simp only [Op.eqItems,hsz,Sem.run_bind,evalP_run ha w,evalP_run hb w,eqAt_sound m k e a b p w h1,Result.andThen_ok];cases p <;> simp
     ·cases h1
    induction l generalizing r with
    | nil=>simp [eqIs] at h; subst h; simp [Op.eqItems]
    | cons i l ih=>
     cases l with
     | nil=>
      simp only [eqIs] at h;rw [one i [] r h];cases r <;> simp [Op.eqItems]
     | cons i2 l2=>
      rw [eqIs] at h
      ·obtain ⟨p,q,h1,h2,rfl⟩:=andO_some h;rw [one i _ p h1];cases p
       ·simp
       ·simpa using ih q h2
      ·intro h0; cases h0
   ·cases h
  ·cases h
theorem eql_agg {t:TypeId} {x y:Operand} {us vs:List Value} {r:Bool} (h:eqAt P 8 t (.agg us.toArray) (.agg vs.toArray) = some r) (hg:P.eqGuardType P.depth t = false) (w:World) :
  (do eqGuard .eql t x y (.agg us.toArray) (.agg vs.toArray); binOp .eql t (.agg us.toArray) (.agg vs.toArray):Sem Value).run P w = .ok (.bool r) w:=by
 have:=eqAt_sound 8 9992 t _ _ r w h;simp only [Sem.run_bind,run_eqGuard_agg w .eql t x y _ _ hg,Result.andThen_ok,run_eql_struct];rw [show (10000:Nat) = 8 + 9992 from rfl,this];rfl
theorem neq_agg {t:TypeId} {x y:Operand} {us vs:List Value} {r:Bool} (h:eqAt P 8 t (.agg us.toArray) (.agg vs.toArray) = some r) (hg:P.eqGuardType P.depth t = false) (w:World) :
  (do eqGuard .neq t x y (.agg us.toArray) (.agg vs.toArray); binOp .neq t (.agg us.toArray) (.agg vs.toArray):Sem Value).run P w = .ok (.bool (!r)) w:=by
 have:=eqAt_sound 8 9992 t _ _ r w h;simp only [Sem.run_bind,run_eqGuard_agg w .neq t x y _ _ hg,Result.andThen_ok,run_neq_struct];rw [show (10000:Nat) = 8 + 9992 from rfl,this];rfl
theorem funcEq_sound {op:BinOp} {t yt:TypeId} {x y:Operand} {f:Fn} {z xs:Array Value} (hop:o.op = .binOp op t x y yt) (e1:a.eval x = .func f z xs) (e2:a.eval y = .nilFunc) (hv:funcEq P op t = some (v,ob)) (c:Ctx):Runs P o a w c pl v:=by
 unfold funcEq at hv;split at hv
 ·rename_i hu;obtain ⟨rfl,_⟩:=some_pair hv;obtain ⟨m1,m2⟩:=mkv_sound (c:=c) (pl:=pl) (kn:=true) (v:=.bool false) rfl;exact .mk (binOp_run hop e1 e2 rfl (by simp) (eql_run rfl (equalIn_func hu))) m1 m2
 ·rename_i hu;obtain ⟨rfl,_⟩:=some_pair hv;obtain ⟨m1,m2⟩:=mkv_sound (c:=c) (pl:=pl) (kn:=true) (v:=.bool true) rfl;exact .mk (binOp_run hop e1 e2 rfl (by simp) (neq_run rfl (equalIn_func hu))) m1 m2
 ·simp at hv
theorem equalIn_ptr {d:Nat} {t e:TypeId} {p:Addr} (hu:P.underlying t = some (.pointer e)):(Op.equalIn (d + 1) t (.pointer (some p)) (.pointer none)).run P w = .ok false w:=by
 simp [Op.equalIn,run_underlying hu]
theorem equalIn_nilS {d:Nat} {t e:TypeId} {p:Option Addr} {l c:Nat} (hu:P.underlying t = some (.slice e)):(Op.equalIn (d + 1) t (.slice p l c) (.slice none 0 0)).run P w = .ok p.isNone w:=by
 cases p <;> simp [Op.equalIn,run_underlying hu]
theorem ptrEq_sound {op:BinOp} {t yt:TypeId} {x y:Operand} {p:Addr} (hop:o.op = .binOp op t x y yt) (e1:a.eval x = .pointer (some p)) (e2:a.eval y = .pointer none) (hv:ptrEq P op t = some (v,ob)) (c:Ctx):Runs P o a w c pl v:=by
 unfold ptrEq at hv;split at hv
 ·rename_i hu;obtain ⟨rfl,_⟩:=some_pair hv;obtain ⟨m1,m2⟩:=mkv_sound (c:=c) (pl:=pl) (kn:=true) (v:=.bool false) rfl;exact .mk (binOp_run hop e1 e2 rfl (by simp) (eql_run rfl (equalIn_ptr hu))) m1 m2
 ·rename_i hu;obtain ⟨rfl,_⟩:=some_pair hv;obtain ⟨m1,m2⟩:=mkv_sound (c:=c) (pl:=pl) (kn:=true) (v:=.bool true) rfl;exact .mk (binOp_run hop e1 e2 rfl (by simp) (neq_run rfl (equalIn_ptr hu))) m1 m2
 ·simp at hv
theorem nilsEq_sound {op:BinOp} {t yt:TypeId} {x y:Operand} (hop:o.op = .binOp op t x y yt) (e1:a.eval x = .slice none 0 0) (e2:a.eval y = .slice none 0 0) (hv:nilsEq P op t = some (v,ob)) (c:Ctx):Runs P o a w c pl v:=by
 unfold nilsEq at hv;split at hv
 ·rename_i hu;obtain ⟨rfl,_⟩:=some_pair hv;obtain ⟨m1,m2⟩:=mkv_sound (c:=c) (pl:=pl) (kn:=true) (v:=.bool true) rfl;exact .mk (binOp_run hop e1 e2 rfl (by simp) (eql_run rfl (equalIn_nilS hu))) m1 m2
 ·rename_i hu;obtain ⟨rfl,_⟩:=some_pair hv;obtain ⟨m1,m2⟩:=mkv_sound (c:=c) (pl:=pl) (kn:=true) (v:=.bool false) rfl;exact .mk (binOp_run hop e1 e2 rfl (by simp) (neq_run rfl (equalIn_nilS hu))) m1 m2
 ·simp at hv
theorem isNilS_sound {c:Ctx} {pl:Nat -> Place} {x:SV} {u:Value} (h:SVR c pl x u) (hx:x.isNilS = true):u = .slice none 0 0:=by
 unfold SV.isNilS at hx;split at hx
 ·exact h.one.2
 ·cases hx
theorem isPtr_sound {c:Ctx} {pl:Nat -> Place} {x:SV} {u:Value} (h:SVR c pl x u) (hx:x.isPtr = true):∃ p,u = .pointer (some p):=by
 unfold SV.isPtr at hx;split at hx
 ·exact ⟨_,h.one.2⟩
 ·obtain ⟨b,off,e,_⟩:=h.one.2; exact ⟨_,e⟩
 ·cases hx
theorem isNilPtr_sound {c:Ctx} {pl:Nat -> Place} {x:SV} {u:Value} (h:SVR c pl x u) (hx:x.isNilPtr = true):u = .pointer none:=by
 unfold SV.isNilPtr at hx;split at hx
 ·exact h.one.2
 ·cases hx
theorem isFn_sound {c:Ctx} {pl:Nat -> Place} {x:SV} {u:Value} (h:SVR c pl x u) (hx:x.isFn = true):∃ f z xs,u = .func f z xs:=by
 unfold SV.isFn at hx;split at hx
 ·have:=h.one.2; exact ⟨_,_,_,this⟩
 ·obtain ⟨as,e,_⟩:=h.one.2; exact ⟨_,_,_,e⟩
 ·cases hx
theorem isNilFn_sound {c:Ctx} {pl:Nat -> Place} {x:SV} {u:Value} (h:SVR c pl x u) (hx:x.isNilFn = true):u = .nilFunc:=by
 unfold SV.isNilFn at hx;split at hx
 ·exact h.one.2
 ·cases hx
theorem binAgg_sound {op:BinOp} {t yt:TypeId} {x y:Operand} {xs ys:List Cell} (hop:o.op = .binOp op t x y yt) (hx:evalO s x = some ⟨.agg,xs⟩) (hy:evalO s y = some ⟨.agg,ys⟩) (hv:binAgg P op t xs ys = some (v,ob)) (hr:Rel E s a w g):Runs P o a w (ctx E g a w) pl v:=by
 unfold binAgg at hv;split at hv
 ·rename_i us vs h1 h2 hg;obtain ⟨us',e1,l1,c1⟩:=(hr.eval hx).agg;obtain ⟨vs',e2,l2,c2⟩:=(hr.eval hy).agg;have f1:=exactCells_sound h1 l1 c1;have f2:=exactCells_sound h2 l2 c2;subst f1; subst f2;split at hv
  ·rename_i r hr1;split at hv
   ·obtain ⟨rfl,_⟩:=some_pair hv;obtain ⟨m1,m2⟩:=mkv_sound (c:=ctx E g a w) (pl:=pl) (kn:=false) (v:=.bool r) rfl;refine .mk ?_ m1 m2;have:=eql_agg (x:=x) (y:=y) hr1 hg w;simp only [execOp,hop,e1,e2];rw [Sem.run_bind,this];rfl
   ·obtain ⟨rfl,_⟩:=some_pair hv;obtain ⟨m1,m2⟩:=mkv_sound (c:=ctx E g a w) (pl:=pl) (kn:=false) (v:=.bool (!r)) rfl;refine .mk ?_ m1 m2;have:=neq_agg (x:=x) (y:=y) hr1 hg w;simp only [execOp,hop,e1,e2];rw [Sem.run_bind,this];rfl
   ·simp at hv
  ·simp at hv
 ·simp at hv
theorem binS_sound {op:BinOp} {t yt:TypeId} {x y:Operand} {p q:SV} (hop:o.op = .binOp op t x y yt) (hx:evalO s x = some p) (hy:evalO s y = some q) (hv:binS P op t p.val? q.val? = some (v,ob)) (hob:ob.P) (hr:Rel E s a w g):Runs P o a w (ctx E g a w) pl v:=by
 unfold binS at hv;split at hv
 ·rename_i ka k p kb k' q h1 h2;exact intBin_sound hop ((hr.eval hx).val h1).1 ((hr.eval hy).val h2).1 hv hob _
 ·rename_i ka p kb q h1 h2;have e1:=((hr.eval hx).val h1).1;have e2:=((hr.eval hy).val h2).1;split at hv
  ·rename_i hu;obtain ⟨rfl,_⟩:=some_pair hv;obtain ⟨m1,m2⟩:=mkv_sound (c:=ctx E g a w) (pl:=pl) (kn:=ka && kb) (v:=.bool (p == q)) rfl;exact .mk (binOp_run hop e1 e2 rfl (by simp) (eql_run rfl (equalIn_bool hu))) m1 m2
  ·rename_i hu;obtain ⟨rfl,_⟩:=some_pair hv;obtain ⟨m1,m2⟩:=mkv_sound (c:=ctx E g a w) (pl:=pl) (kn:=ka && kb) (v:=.bool (!(p == q))) rfl;exact .mk (binOp_run hop e1 e2 rfl (by simp) (neq_run rfl (equalIn_bool hu))) m1 m2
  ·simp at hv
 ·rename_i ka p kb q h1 h2;have e1:=((hr.eval hx).val h1).1;have e2:=((hr.eval hy).val h2).1;split at hv
  ·obtain ⟨rfl,_⟩:=some_pair hv;obtain ⟨m1,m2⟩:=mkv_sound (c:=ctx E g a w) (pl:=pl) (kn:=ka && kb) (v:=.bool (p.toList == q.toList)) rfl;exact .mk (binOp_run hop e1 e2 rfl (by simp) rfl) m1 m2
  ·obtain ⟨rfl,_⟩:=some_pair hv;obtain ⟨m1,m2⟩:=mkv_sound (c:=ctx E g a w) (pl:=pl) (kn:=ka && kb) (v:=.bool !(p.toList == q.toList)) rfl;exact .mk (binOp_run hop e1 e2 rfl (by simp) rfl) m1 m2
  ·simp at hv
 ·simp at hv
theorem binV_sound {op:BinOp} {t yt:TypeId} {x y:Operand} {p q:SV} (hop:o.op = .binOp op t x y yt) (hx:evalO s x = some p) (hy:evalO s y = some q) (hv:binV P op t p q = some (v,ob)) (hob:ob.P) (hr:Rel E s a w g):Runs P o a w (ctx E g a w) pl v:=by
 unfold binV at hv;split at hv
 ·rename_i h1 h2;obtain ⟨sh1,cs1⟩:=p;obtain ⟨sh2,cs2⟩:=q;simp only at h1 h2;subst h1; subst h2;exact binAgg_sound hop hx hy hv hr
 ·split at hv
  ·rename_i h1 h2;obtain ⟨f,z,xs,e1⟩:=isFn_sound (hr.eval hx) h1;exact funcEq_sound hop e1 (isNilFn_sound (hr.eval hy) h2) hv _
  ·split at hv
   ·rename_i h1 h2;obtain ⟨p,e1⟩:=isPtr_sound (hr.eval hx) h1;exact ptrEq_sound hop e1 (isNilPtr_sound (hr.eval hy) h2) hv _
   ·split at hv
    ·rename_i h1 h2;exact nilsEq_sound hop (isNilS_sound (hr.eval hx) h1) (isNilS_sound (hr.eval hy) h2) hv _
    ·exact binS_sound hop hx hy hv hob hr
theorem binOp_sound {op:BinOp} {t yt:TypeId} {x y:Operand} (hop:o.op = .binOp op t x y yt) (hv:aval P want h s (.binOp op t x y yt) = some (v,ob)) (hob:ob.P) (hr:Rel E s a w g):Runs P o a w (ctx E g a w) pl v:=by
 simp only [aval] at hv;split at hv
 ·rename_i p q hx hy;exact binV_sound hop hx hy hv hob hr
 ·simp at hv
theorem unOp_sound {op:UnOp} {t:TypeId} {x:Operand} (hop:o.op = .unOp op t x) (hv:aval P want h s (.unOp op t x) = some (v,ob)) (hr:Rel E s a w g):Runs P o a w (ctx E g a w) pl v:=by
 simp only [aval] at hv;split at hv
 ·rename_i p hp;cases hu:unV op p with
  | none=>simp [hu] at hv
  | some z=>
   simp [hu] at hv;obtain ⟨rfl,_⟩:=hv;unfold unV at hu;have fin:∀ {kn:Bool} {r zv:Value},p.val? = some (kn,zv) -> r.oneCell' = true -> (Op.unary op zv).run P w = .ok r w -> mkv kn r = z -> Runs P o a w (ctx E g a w) pl z:=fun h0 h1 h2 h3=>by
    subst h3;obtain ⟨m1,m2⟩:=mkv_sound (c:=ctx E g a w) (pl:=pl) h1;refine .mk ?_ m1 m2;simp [execOp,hop,((hr.eval hp).val h0).1,h2]
   split at hu
   ·rename_i h0; injection hu with hu; exact fin h0 rfl (by rfl) hu
   ·rename_i h0; injection hu with hu; exact fin h0 rfl (by rfl) hu
   ·rename_i h0; injection hu with hu; exact fin h0 rfl (by rfl) hu
   ·cases hu
 ·simp at hv
theorem str_run {k:Nat -> Nat -> Prop} {xs:List Int} {u:Value} (h:DV w k (.lst (.int .u8) xs) u):∃ a cap,u = .slice a xs.length cap /\ (Conv.bytesToString (.slice a xs.length cap)).run P w = .ok (.string (F.str xs)) w:=by
 cases h with
 | emp t a0 cap hc=>
  refine ⟨a0,cap,rfl,?_⟩;cases a0 with
  | none=>rfl
  | some a0=>exact run_bytesToString w a0 0 cap [] rfl
 | lst t l b off cap f hc h1 hd hcap hm=>
  refine ⟨_,cap,rfl,?_⟩;have hv:∀ i,i < xs.length -> f i 0 = .int .u8 (xs.getD i 0):=fun i hi=>by
   have:=hd i 0 xs[i] (.v (.int .u8 xs[i])) (List.getElem?_eq_getElem hi) rfl;rw [List.getD_eq_getElem?_getD,List.getElem?_eq_getElem hi];generalize f i 0 = z at this;cases this;rfl
  refine run_bytesToString w ⟨b,off,none⟩ xs.length cap xs ?_
  have hl:=run_loadCells_list (P:=P) w ⟨b,off,none⟩ (xs.map (Value.int .u8)) (fun j v hj=>by
   rw [List.getElem?_map] at hj;cases hx:xs[j]? with
   | none=>rw [hx] at hj; cases hj
   | some n=>
    rw [hx] at hj;injection hj with hj;have hjl:=(List.getElem?_eq_some_iff.1 hx).1;have h0:=(hc j 0 hjl (by decide)).1
    rw [hv j hjl,List.getD_eq_getElem?_getD,hx] at h0;simp only [Ty.n,Nat.mul_one,Nat.add_zero] at h0;rw [show (⟨b,off,none⟩:Addr).add j = ⟨b,off + j,none⟩ by simp [Addr.add],h0,<- hj]
    rfl)
  simpa using hl
theorem convert_sound {src dst:TypeId} {x:Operand} (hop:o.op = .convert src dst x) (hv:aval P want h s (.convert src dst x) = some (v,ob)) (hr:Rel E s a w g):Runs P o a w (ctx E g a w) pl v:=by
 simp only [aval] at hv;split at hv
 ·rename_i kn k n hx;cases h1:evalO s x with
  | none=>simp [h1] at hx
  | some y=>
   simp [h1] at hx;have e1:=(hr.eval h1).int hx;split at hv
   ·rename_i d k' h1 h2;simp at hv; obtain ⟨rfl,_⟩:=hv;obtain ⟨m1,m2⟩:=mkv_sound (c:=ctx E g a w) (pl:=pl) (kn:=kn) (v:=.int k' (k'.wrap n)) rfl;refine .mk (u:=.int k' (k'.wrap n)) ?_ m1 m2;simp [execOp,hop,e1,Sem.run_bind,convert,run_underlying h1,run_underlying h2,Conv.intToInt]
   ·simp at hv
 ·split at hv
  ·rename_i c e hx h1 h2;split at hv
   ·rename_i xs he hxs;simp at hv; obtain ⟨rfl,_⟩:=hv;obtain ⟨m1,m2⟩:=mkv_sound (c:=ctx E g a w) (pl:=pl) (kn:=false) (v:=.string (F.str xs)) rfl;obtain ⟨a0,cap,hu,hrun⟩:=str_run (P:=P) (w:=w) (CV.listV (hr.eval hx).one.2 hxs);refine .mk (u:=.string (F.str xs)) ?_ m1 m2;simp only [execOp,hop,hu,Sem.run_bind];rw [run_convert_bytes_string w src dst e a0 _ cap h1 he h2,hrun];rfl
   ·simp at hv
  ·simp at hv
theorem caps_sound:∀ {l:List Operand} {caps:List (Nat × Nat)},caps? s l = some caps -> Rel E s a w g ->
  l.map a.eval = caps.map fun q=>Value.pointer (some ⟨g.ι q.1,q.2,none⟩)
 | [],caps,h,_=>by simp [caps?] at h; subst h; rfl
 | x :: r,caps,h,hr=>by
  simp only [caps?] at h;split at h
  ·rename_i n off hx;cases hq:caps? s r with
   | none=>simp [hq] at h
   | some r'=>
    simp [hq] at h; subst h;have ih:=caps_sound hq hr;have:a.eval x = .pointer (some ⟨g.ι n,off,none⟩):=(hr.eval hx).one.2;simp [this,ih]
  ·simp at h
theorem makeFunc_sound {fn:Fn} {first captured:Array Operand} (hop:o.op = .makeFunc fn first captured) (hv:aval P want h s (.makeFunc fn first captured) = some (v,ob)) (hr:Rel E s a w g):Runs P o a w (ctx E g a w) pl v:=by
 simp only [aval] at hv;split at hv
 ·rename_i f hf;cases hc:caps? s captured.toList with
  | none=>simp [hc] at hv
  | some caps=>
   simp [hc] at hv; obtain ⟨rfl,_⟩:=hv;have h1:=caps_sound hc hr;have h2:captured.map a.eval = (caps.map fun q=>Value.pointer (some ⟨g.ι q.1,q.2,none⟩)).toArray:=by
    apply Array.toList_inj.1;rw [Array.toList_map,h1]
   have h3:first = #[]:=by cases first; simp_all
   refine .mk (u:=.func (.func f) #[] (caps.map fun q=>Value.pointer (some ⟨g.ι q.1,q.2,none⟩)).toArray) ?_ (SVR.of_one rfl ?_) rfl
   ·simp only [execOp,hop,Instr.makeFunc,h2];rw [show first.map a.eval = #[] from by rw [h3]; simp]
    rfl
   ·rfl
 ·simp at hv
theorem sized_run {t:TypeId} (hs:sized P t = true):∃ n,n ≠ 0 /\ ∀ w,(sizeOf t).run P w = .ok n w:=by
 unfold sized at hs;split at hs
 ·rename_i j hj;exact ⟨j.size,by simpa using hs,fun w=>by simp [sizeOf,typeInfo,hj]⟩
 ·simp at hs
theorem fieldAddr_sound {t:TypeId} {x:Operand} {f:Nat} (hop:o.op = .fieldAddr t x f) (hv:aval P want h s (.fieldAddr t x f) = some (v,ob)) (hr:Rel E s a w g):Runs P o a w (ctx E g a w) pl v:=by
 simp only [aval] at hv;split at hv
 ·rename_i fields hu;split at hv
  ·rename_i fd n off hf hx;split at hv
   ·rename_i hs;obtain ⟨rfl,_⟩:=some_pair hv;obtain ⟨m,hm,hz⟩:=sized_run hs;have e1:a.eval x = .pointer (some ⟨g.ι n,off,none⟩):=(hr.eval hx).one.2;refine .mk (u:=.pointer (some ⟨g.ι n,off + fd.offset,none⟩)) ?_ (SVR.of_one rfl rfl) rfl;simp [execOp,hop,e1,Sem.run_bind,Instr.fieldAt,run_underlying hu,hf,Instr.sureAddr,fieldPlace,hz,hm,Addr.add_mid]
   ·simp at hv
  ·rename_i fd ds hf hx;split at hv
   ·rename_i hs;obtain ⟨rfl,_⟩:=some_pair hv;obtain ⟨m,hm,hz⟩:=sized_run hs;obtain ⟨b,off,e1,hc⟩:=(hr.eval hx).one.2;refine .mk (u:=.pointer (some ⟨b,off + fd.offset,none⟩)) ?_ (SVR.of_one rfl ⟨b,off + fd.offset,rfl,DPV.drop hc⟩) rfl;simp [execOp,hop,e1,Sem.run_bind,Instr.fieldAt,run_underlying hu,hf,Instr.sureAddr,fieldPlace,hz,hm,Addr.add_mid]
   ·simp at hv
  ·rename_i fd n off ty len i fo hf hx;split at hv
   ·rename_i hs;obtain ⟨rfl,_⟩:=some_pair hv;obtain ⟨m,hm,hz⟩:=sized_run hs;obtain ⟨e1,hb⟩:=(hr.eval hx).one.2;have e1:a.eval x = .pointer (some ⟨g.ι n,off + i.toNat * ty.n + fo,none⟩):=e1;refine .mk (u:=.pointer (some ⟨g.ι n,off + i.toNat * ty.n + (fo + fd.offset),none⟩)) ?_ (SVR.of_one rfl ⟨rfl,hb⟩) rfl;simp [execOp,hop,e1,Sem.run_bind,Instr.fieldAt,run_underlying hu,hf,Instr.sureAddr,fieldPlace,hz,hm,Addr.add_mid,Nat.add_assoc]
   ·simp at hv
  ·rename_i fd q ty i fo hf hx;split at hv
   ·rename_i hs;obtain ⟨rfl,_⟩:=some_pair hv;obtain ⟨m,hm,hz⟩:=sized_run hs;obtain ⟨b,len,cap,h0,e1,hb⟩:=(hr.eval hx).one.2;refine .mk (u:=.pointer (some ⟨b,i.toNat * ty.n + (fo + fd.offset),none⟩)) ?_ (SVR.of_one rfl ⟨b,len,cap,h0,rfl,hb⟩) rfl;simp [execOp,hop,e1,Sem.run_bind,Instr.fieldAt,run_underlying hu,hf,Instr.sureAddr,fieldPlace,hz,hm,Addr.add_mid,Nat.add_assoc]
   ·simp at hv
  ·simp at hv
 ·simp at hv
theorem field_sound {t:TypeId} {x:Operand} {f:Nat} (hop:o.op = .field t x f) (hv:aval P want h s (.field t x f) = some (v,ob)) (hr:Rel E s a w g):Runs P o a w (ctx E g a w) pl v:=by
 simp only [aval] at hv;split at hv
 ·rename_i fields hu;split at hv
  ·rename_i fd cs hf hx;have main:∀ y,partSV P fd.type cs fd.offset = some y -> ∃ u,(execOp a.eval o).run P w = .ok (.value u) w /\ SVR (ctx E g a w) (fun i=>plOf x (fd.offset + i)) y u /\ ∀ i z,(flat u)[i]? = some z -> (flat (a.eval x))[fd.offset + i]? = some z:=fun y hp=>by
    obtain ⟨us,e1,hl,hc⟩:=(hr.eval hx).agg;obtain ⟨u,sz,k1,k2,k3,k4,k5⟩:=partSV_sound hp hl hc;refine ⟨u,?_,k3,fun i z hz=>?_⟩
    ·have hag:=isAggT_run k1 w;cases hi:P.info? fd.type with
     | none=>simp [hi] at k2
     | some i=>
      simp [hi] at k2;cases hs:y.sh.isAgg with
      | true=>
       rw [hs] at hag;simp [execOp,hop,e1,Sem.run_bind,Instr.field,run_underlying hu,hf,asAgg,part,hag,sizeOf,typeInfo,hi,k2,(k4 hs).1]
      | false=>
       rw [hs] at hag;simp [execOp,hop,e1,Sem.run_bind,Instr.field,run_underlying hu,hf,asAgg,part,hag,k5 hs]
    ·rw [e1];show us[fd.offset + i]? = some z;cases hs:y.sh.isAgg with
     | true=>
      rw [(k4 hs).1] at hz;simp [flat,List.getElem?_take] at hz;exact hz.2
     | false=>
      have h5:=k5 hs;have h1:u.oneCell' = true:=by
       have hlt:=(List.getElem?_eq_some_iff.1 h5).1;exact (hc fd.offset _ u (List.getElem?_eq_getElem (by omega)) h5).1
      rw [flat_one h1] at hz;cases i with
      | zero=>simp at hz; subst hz; exact h5
      | succ i=>simp at hz
   split at hv
   ·rename_i tx;cases hp:partSV P fd.type cs fd.offset with
    | none=>simp [hp] at hv
    | some y=>
     rw [hp] at hv;obtain ⟨rfl,_⟩:=some_pair hv;obtain ⟨u,h1,h2,h3⟩:=main y hp
     refine .mk (u:=u) h1 (SVR.copy (pl:=fun i=>.slot tx (fd.offset + i)) (by cases y; exact h2) (fun _=>⟨fun _=>rfl,fun i z hz=>by
      show (flat (tv g.dy.out a tx))[fd.offset + i]? = _;rw [tv_own (look_some hx).1]
      exact h3 i z hz⟩)) (copyCells_notOwn _ _)
   ·cases hp:partSV P fd.type cs fd.offset with
    | none=>simp [hp] at hv
    | some y=>
     rw [hp] at hv;obtain ⟨rfl,_⟩:=some_pair hv;obtain ⟨u,h1,h2,h3⟩:=main y hp;obtain ⟨c1,c2⟩:=copied h2 (pl2:=pl);exact .mk (u:=u) h1 c1 c2
  ·simp at hv
 ·simp at hv
theorem extract_sound {x:Operand} {k:Nat} (hop:o.op = .extract x k) (hv:aval P want h s (.extract x k) = some (v,ob)) (hr:Rel E s a w g):Runs P o a w (ctx E g a w) pl v:=by
 have key:∀ (l:List (Bool × Nat)) (cs:List Cell) (us:List Value) (k:Nat) (y:SV) (pl0:Nat -> Place),tupPart l cs k = some y -> us.length = cs.length ->
   (∀ i x y,cs[i]? = some x -> us[i]? = some y -> y.oneCell' = true /\ CV (ctx E g a w) (pl0 i) x y) ->
   (flat (.tuple (comps l us).toArray) = us) -> ∃ u,(comps l us)[k]? = some u /\ ∃ pl1,SVR (ctx E g a w) pl1 y u:=by
  intro l;induction l with
  | nil=>intro cs us k y pl0 hp; simp [tupPart] at hp
  | cons q r ih=>
   obtain ⟨b,n⟩:=q;intro cs us k y pl0 hp hl hc hf;cases k with
   | zero=>
    cases b with
    | true=>
     simp [tupPart] at hp; subst hp;refine ⟨_,rfl,pl0,?_⟩;refine SVR.of_agg (by simp [hl]) fun j x y hx hy=>?_
     rw [List.getElem?_take] at hx hy;split at hx
     ·rename_i hj; rw [if_pos hj] at hy; exact hc j x y hx hy
     ·simp at hx
    | false=>
     simp [tupPart] at hp; subst hp
     match cs,us,hl with
     | [],[],_=>
      simp [comps,flat] at hf;simp [Value.cells,undef] at hf
     | c :: cs,u :: us,_=>
      refine ⟨u,rfl,pl0,?_⟩;have:=hc 0 c u rfl rfl;exact SVR.of_one this.1 this.2
   | succ k=>
    simp only [tupPart] at hp;cases b with
    | true=>
     simp at hp;have hf':flat (.tuple (comps r (us.drop n)).toArray) = us.drop n:=by
      simp [comps,flat,Value.cells] at hf ⊢;conv at hf=>rhs; rw [<- List.take_append_drop n us]
      exact List.append_cancel_left hf
     obtain ⟨u,h1,h2⟩:=ih (cs.drop n) (us.drop n) k y (fun i=>pl0 (n + i)) hp (by simp [hl]) (fun i x y hx hy=>by
      rw [List.getElem?_drop] at hx hy; exact hc _ x y hx hy) hf'
     exact ⟨u,by simpa [comps] using h1,h2⟩
    | false=>
     simp at hp
     match us,cs,hl with
     | [],[],_=>
      simp [comps,flat] at hf;simp [Value.cells,undef] at hf
     | u :: us,c :: cs,hl=>
      have h1:=(hc 0 c u rfl rfl).1;have hf':flat (.tuple (comps r us).toArray) = us:=by
       simp [comps,flat,cells_one h1] at hf ⊢;exact hf
      obtain ⟨z,h1,h2⟩:=ih cs us k y (fun i=>pl0 (i + 1)) (by simpa using hp) (by simpa using hl) (fun i x y hx hy=>hc (i + 1) x y (by simpa using hx) (by simpa using hy)) hf'
      exact ⟨z,by simpa [comps] using h1,h2⟩
 simp only [aval] at hv;split at hv
 ·rename_i l cs hx;cases hp:tupPart l cs k with
  | none=>simp [hp] at hv
  | some y=>
   rw [hp] at hv;obtain ⟨rfl,_⟩:=some_pair hv;obtain ⟨us,e1,hf,hl,hc⟩:=hr.eval hx;simp only [Shape.mk] at e1;obtain ⟨u,h1,pl1,h2⟩:=key l cs us k y _ hp hl hc (by rw [<- e1]; exact hf)
   obtain ⟨c1,c2⟩:=copied h2 (pl2:=pl);refine .mk (u:=u) ?_ c1 c2;simp [execOp,hop,e1,Instr.extract,h1]
 ·simp at hv
theorem len_run {t:TypeId} {x:Operand} {c:Call} {u:Value} {n:Int} (hop:o.op = .call c) (hc:c.callee = .builtin .len) (ha:c.args.toList = [x]) (ht:c.argTypes.toList = [t]) (hx:a.eval x = u)
  (hl:(Builtin.len_ #[t] o.type #[u]).run P w = .ok (.int .i64 n) w):(execOp a.eval o).run P w = .ok (.value (.int .i64 n)) w:=by
 have h1:c.args = #[x]:=by cases hh:c.args; simp_all
 have h2:c.argTypes = #[t]:=by cases hh:c.argTypes; simp_all
 simp only [execOp,hop,resolve,hc,h1,h2,Sem.run_bind,Sem.run_pure,Result.andThen_ok,invoke,builtin];simp [hx,hl]
theorem exacts_sound:∀ {l:List Operand} {b:Bool} {vs:List Value},exacts s l = some (b,vs) -> Rel E s a w g -> l.map a.eval = vs
 | [],b,vs,hx,_=>by simp [exacts] at hx; obtain ⟨_,rfl⟩:=hx; rfl
 | x :: r,b,vs,hx,hr=>by
  simp only [exacts] at hx;split at hx
  ·rename_i b0 v hv;cases h1:evalO s x with
   | none=>simp [h1] at hv
   | some y=>
    simp [h1] at hv;split at hx
    ·rename_i c l' h2;simp at hx; obtain ⟨_,rfl⟩:=hx;simp [((hr.eval h1).val hv).1,exacts_sound h2 hr]
    ·simp at hx
  ·simp at hx
theorem foldMM_sound {k:IntKind} {f:Int -> Int -> Int} {g2:Value -> Value -> Sem Value} (hg:∀ k' x y (w:World),(g2 (.int k x) (.int k' y)).run P w = .ok (.int k (f x y)) w):∀ (r:List Value) (x n:Int),foldMM k f x r = some n -> (r.foldlM g2 (.int k x)).run P w = .ok (.int k n) w
 | [],x,n,h=>by simp [foldMM] at h; subst h; simp
 | y :: r,x,n,h=>by
  cases y with
  | int k' y=>
   simp only [foldMM] at h;split at h
   ·simp only [List.foldlM_cons,Sem.run_bind,hg,Result.andThen_ok];exact foldMM_sound hg r _ n h
   ·cases h
  | _=>simp [foldMM] at h
theorem minmax_sound {f:Int -> Int -> Int} {g2:Value -> Value -> Sem Value} (hg:∀ k k' x y (w:World),(g2 (.int k x) (.int k' y)).run P w = .ok (.int k (f x y)) w) {b:Bool} {vs:List Value} {v:SV} (h:minmax f (b,vs) = some v) :
  ∃ x r u,vs = x :: r /\ (r.foldlM g2 x).run P w = .ok u w /\ u.oneCell' = true /\ v = mkv b u:=by
 unfold minmax at h;split at h
 ·rename_i kn k a r e;injection e with e1 e2;subst e1; subst e2;cases hf:foldMM k f a r with
  | none=>simp [hf] at h
  | some n=>
   simp [hf] at h;exact ⟨_,_,_,rfl,foldMM_sound (fun k' x y w=>hg k k' x y w) r a n hf,rfl,h.symm⟩
 ·cases h
theorem count_sound {c:Ctx} {p:Place} {x:Cell} {u:Value} {kn:Bool} {n:Int} (h:CV c p x u) (hx:x.count = some (kn,n)):∃ (ad:Option Addr) (len cap:Nat),u = .slice ad len cap /\ n = len:=by
 have key:∀ {t:Ty} {l:List t.T},DV c.w c.k (.lst t l) u -> ∃ (ad:Option Addr) (len cap:Nat),u = .slice ad len cap /\ ((l.length:Nat):Int) = len:=fun hd=>by
  cases hd with
  | emp t ad cap hc=>exact ⟨ad,0,cap,rfl,by simp⟩
  | lst t l b off cap u'=>exact ⟨_,_,_,rfl,rfl⟩
 cases x <;> simp [Cell.count] at hx
 case nilS=>obtain ⟨_,rfl⟩:=hx; exact ⟨none,0,0,h,rfl⟩
 case lst=>obtain ⟨_,rfl⟩:=hx; exact key h
 case own=>obtain ⟨_,rfl⟩:=hx; exact key h.2.1
 case ali=>obtain ⟨_,rfl⟩:=hx; exact key h.2.2.1
theorem clear_run {c:Call} {x:Operand} {t kt vt:TypeId} {b:Nat} (hop:o.op = .call c) (hc:c.callee = .builtin .clear) (ha:c.args.toList = [x]) (ht:c.argTypes.toList = [t]) (e1:a.eval x = .map (some b)) (hb:w.heap[b]? = some (.map #[] 0)) (hu:P.underlying t = some (.map kt vt)):(execOp a.eval o).run P w = .ok (.value (.tuple #[])) w:=by
 have h1:c.args = #[x]:=by cases hh:c.args; simp_all
 have h2:c.argTypes = #[t]:=by cases hh:c.argTypes; simp_all
 have hset:{ w with heap:=w.heap.setIfInBounds b (.map #[] 0) } = w:=by
  have:w.heap.setIfInBounds b (.map #[] 0) = w.heap:=by
   refine Array.ext_getElem? fun i=>?_
   rw [Array.getElem?_setIfInBounds];split
   ·rename_i hi;subst hi;have hlt:=(Array.getElem?_eq_some_iff.1 hb).1;rw [if_pos hlt,hb]
   ·rfl
  rw [this]
 simp only [execOp,hop,resolve,hc,h1,h2,Sem.run_bind,Sem.run_pure,Result.andThen_ok,invoke,builtin];simp [Builtin.clear_,e1,run_underlying hu,MapKept.run_getObj_map hb,MapKept.run_setObj_map _ hb,hset]
theorem call_sound {c:Call} (hop:o.op = .call c) (hv:aval P want h s (.call c) = some (v,ob)) (hr:Rel E s a w g):Runs P o a w (ctx E g a w) pl v:=by
 simp only [aval] at hv;have mm:∀ {f:Int -> Int -> Int} {g2:Value -> Value -> Sem Value} {bt:Builtin},(∀ k k' x y (w:World),(g2 (.int k x) (.int k' y)).run P w = .ok (.int k (f x y)) w) -> c.callee = .builtin bt ->
   (∀ (x:Value) (r:List Value),c.args.map a.eval = (x :: r).toArray -> ∀ u,(r.foldlM g2 x).run P w = .ok u w -> (execOp a.eval o).run P w = .ok (.value u) w) ->
   (match exacts s c.args.toList with
   | some vs=>(minmax f vs).map (·,Cnd.ok)
   | none=>none) = some (v,ob) -> Runs P o a w (ctx E g a w) pl v:=fun hg hc hrun hv=>by
  split at hv
  ·rename_i vs hvs;obtain ⟨b,vs⟩:=vs;cases hm:minmax _ (b,vs) with
   | none=>rw [hm] at hv; cases hv
   | some z=>
    rw [hm] at hv;obtain ⟨rfl,_⟩:=some_pair hv;obtain ⟨x,r,u,rfl,h2,h3,rfl⟩:=minmax_sound (P:=P) (w:=w) hg hm;obtain ⟨m1,m2⟩:=mkv_sound (c:=ctx E g a w) (pl:=pl) (kn:=b) h3;refine .mk (hrun x r ?_ u h2) m1 m2;apply Array.toList_inj.1;rw [Array.toList_map,exacts_sound hvs hr]
  ·simp at hv
 split at hv
 ·rename_i hc;split at hv
  ·rename_i x t ha ht;split at hv
   ·rename_i b hx hu;obtain ⟨rfl,_⟩:=some_pair hv;have e1:a.eval x = .string b:=(hr.eval hx).one.2;obtain ⟨m1,m2⟩:=mkv_sound (c:=ctx E g a w) (pl:=pl) (kn:=true) (v:=.int .i64 b.size) rfl;exact .mk (len_run hop hc ha ht e1 (by simp [Builtin.len_,run_underlying hu,goInt])) m1 m2
   ·rename_i b hx hu;obtain ⟨rfl,_⟩:=some_pair hv;have e1:a.eval x = .string b:=(hr.eval hx).one.2;obtain ⟨m1,m2⟩:=mkv_sound (c:=ctx E g a w) (pl:=pl) (kn:=false) (v:=.int .i64 b.size) rfl;exact .mk (len_run hop hc ha ht e1 (by simp [Builtin.len_,run_underlying hu,goInt])) m1 m2
   ·rename_i q n e hx hu;obtain ⟨rfl,_⟩:=some_pair hv;obtain ⟨m1,m2⟩:=mkv_sound (c:=ctx E g a w) (pl:=pl) (kn:=true) (v:=.int .i64 n) rfl;exact .mk (len_run hop hc ha ht rfl (by simp [Builtin.len_,run_underlying hu,goInt])) m1 m2
   ·rename_i q e _ _ hx hu;split at hv
    ·rename_i kn n hl;obtain ⟨rfl,_⟩:=some_pair hv;obtain ⟨ad,len,cap,e1,rfl⟩:=count_sound (hr.eval hx).one.2 hl;obtain ⟨m1,m2⟩:=mkv_sound (c:=ctx E g a w) (pl:=pl) (kn:=kn) (v:=.int .i64 len) rfl;exact .mk (len_run hop hc ha ht e1 (by simp [Builtin.len_,run_underlying hu,goInt])) m1 m2
    ·simp at hv
   ·simp at hv
  ·simp at hv
 ·rename_i hc;refine mm (g2:=Builtin.min2) (fun k k' x y w=>rfl) hc (fun x r he u hu=>?_) hv
  simp only [execOp,hop,resolve,hc,he,Sem.run_bind,Sem.run_pure,Result.andThen_ok,invoke,builtin];simp [Builtin.min_,hu]
 ·rename_i hc;refine mm (g2:=Builtin.max2) (fun k k' x y w=>rfl) hc (fun x r he u hu=>?_) hv
  simp only [execOp,hop,resolve,hc,he,Sem.run_bind,Sem.run_pure,Result.andThen_ok,invoke,builtin];simp [Builtin.max_,hu]
 ·simp at hv
theorem DV.sub {w:World} {k:Nat -> Nat -> Prop} {t:Ty} {xs:List t.T} {u:Value} (hd:DV w k (.lst t xs) u) {l n:Nat} (hl:l <= n) (hn:n <= xs.length) :
  ∃ (ad:Option Addr) (len cap:Nat),u = .slice ad len cap /\ len = xs.length /\ len <= cap /\
   DV w k (.lst t ((xs.take n).drop l)) (.slice (if cap = l then ad else ad.map (·.add (l * t.n))) (n - l) (cap - l)):=by
 cases hd with
 | emp t ad cap hc=>
  have h0:n = 0:=by simpa using hn
  subst h0;have:l = 0:=by omega
  subst this;exact ⟨ad,0,cap,rfl,rfl,by omega,by simp; exact .emp _ _ _ (by omega)⟩
 | lst t xs b off cap u' hc h1 hdd hcap hm=>
  refine ⟨some ⟨b,off,none⟩,xs.length,cap,rfl,rfl,hcap,?_⟩;have hlen:((xs.take n).drop l).length = n - l:=by simp; omega
  by_cases h0:n - l = 0
  ·have:(xs.take n).drop l = []:=List.eq_nil_of_length_eq_zero (by omega)
   rw [this,h0];exact .emp _ _ _ (by omega)
  ·rw [if_neg (by omega)]
   simp only [Option.map_some,Addr.add_mid];have hget:∀ i,i < n - l -> ((xs.take n).drop l)[i]? = xs[l + i]?:=fun i hi=>by
    rw [List.getElem?_drop,List.getElem?_take,if_pos (by omega)]
   have:=DV.lst (w:=w) (k:=k) t ((xs.take n).drop l) b (off + l * t.n) (cap - l) (fun i j=>u' (l + i) j)
    (fun i j hi hj=>by
     have:=hc (l + i) j (by omega) hj
     rw [show off + l * t.n + i * t.n + j = off + (l + i) * t.n + j from by rw [Nat.add_mul]; omega]
     exact this)
    (fun i j hi hj=>h1 (l + i) j (by omega) hj)
    (fun i j e d he hd=>by
     have hi:i < n - l:=by have:=(List.getElem?_eq_some_iff.1 he).1; omega
     rw [hget i hi] at he
     exact hdd (l + i) j e d he hd)
    (by omega) (by omega)
   rw [hlen] at this;exact this
theorem opIx_sound {x:Option Operand} {l:Option (Bool × Int)} (hx:opIx s x = some l) (hr:Rel E s a w g):(x = none /\ l = none) \/ ∃ y k b n,x = some y /\ l = some (b,n) /\ a.eval y = .int k n:=by
 unfold opIx at hx;split at hx
 ·left; simp at hx; exact ⟨rfl,hx.symm⟩
 ·rename_i y;split at hx
  ·rename_i b k n hy;right;cases h1:evalO s y with
   | none=>simp [h1] at hy
   | some z=>
    simp [h1] at hy;simp at hx;exact ⟨y,k,b,n,rfl,hx.symm,(hr.eval h1).int hy⟩
  ·simp at hx
theorem sliceBound_run {k:IntKind} {n:Int} {y:Nat} {code:BoundsCode} (h0:0 <= n) (h1:n <= y):(Instr.sliceBound (.int k n) y code).run P w = .ok n.toNat w:=by
 simp [Instr.sliceBound,asIntOf,h0,h1]
theorem sliceList_run {t:TypeId} {x:Operand} {lo hi:Option Operand} {l hh:Option (Bool × Int)} {e:TypeId} {j:TypeInfo} {ad:Option Addr} {len cap:Nat} (hop:o.op = .slice t x lo hi none) (hr:Rel E s a w g) (hlo:opIx s lo = some l) (hhi:opIx s hi = some hh) (hu:P.underlying t = some (.slice e)) (hj:P.info? e = some j)
  (e1:a.eval x = .slice ad len cap) (hcap:len <= cap) (b0:0 <= (l.getD (true,0)).2) (b1:(l.getD (true,0)).2 <= (hh.getD (true,(len:Int))).2) (b2:(hh.getD (true,(len:Int))).2 <= len) :
  (execOp a.eval o).run P w = .ok (.value (.slice (if cap = ((l.getD (true,0)).2).toNat then ad else ad.map (·.add (((l.getD (true,0)).2).toNat * j.size))) (((hh.getD (true,(len:Int))).2).toNat - ((l.getD (true,0)).2).toNat) (cap - ((l.getD (true,0)).2).toNat))) w:=by
 have hb:(Instr.sliceBounds true len cap (lo.map a.eval) (hi.map a.eval) none).run P w = .ok (((l.getD (true,0)).2).toNat,((hh.getD (true,(len:Int))).2).toNat,cap) w:=by
  rcases opIx_sound hlo hr with ⟨rfl,rfl⟩ | ⟨y1,k1,q1,n1,rfl,rfl,f1⟩ <;> rcases opIx_sound hhi hr with ⟨rfl,rfl⟩ | ⟨y2,k2,q2,n2,rfl,rfl,f2⟩
  ·simp [Instr.sliceBounds]
  ·simp at b0 b1 b2 ⊢;simp [Instr.sliceBounds,f2];rw [sliceBound_run b1 (by omega)]
   simp
  ·simp at b0 b1 b2 ⊢;simp [Instr.sliceBounds,f1];rw [sliceBound_run b0 (by omega)]
   simp
  ·simp at b0 b1 b2 ⊢;simp [Instr.sliceBounds,f1,f2];rw [sliceBound_run (by omega) (by omega)]
   simp;rw [sliceBound_run b0 (by omega)]
   simp
 simp only [execOp,hop,e1,Sem.run_bind,Instr.sliceAt,run_underlying hu,Result.andThen_ok];simp [Instr.slice,Sem.run_bind,run_underlying hu,hb,sizeOf,typeInfo,hj]
theorem DV.full {w:World} {k:Nat -> Nat -> Prop} {t:Ty} {xs:List t.T} {ad:Option Addr} {cap l n:Nat} (h:DV w k (.lst t xs) (.slice (if cap = l then ad else ad.map (·.add (l * t.n))) (n - l) (cap - l))) (hln:l <= n) (hn:n <= cap) (hx:xs.length = n - l):DV w k (.lst t xs) (.slice (if n = l then ad else ad.map (·.add (l * t.n))) (n - l) (n - l)):=by
 by_cases h0:n = l
 ·subst h0;have:xs = []:=List.eq_nil_of_length_eq_zero (by omega)
  subst this;rw [Nat.sub_self];exact .emp _ _ _ (Nat.zero_le _)
 ·rw [if_neg (show ¬ cap = l by omega)] at h
  rw [if_neg h0];generalize ad.map (·.add (l * t.n)) = A at h ⊢;generalize hN:n - l = N at h hx ⊢;generalize cap - l = C at h;cases h with
  | emp=>simp at hx; omega
  | lst t xs b off cap' u' hc h1 hdd hcap hm=>
   exact .lst t xs b off xs.length u' hc h1 hdd (Nat.le_refl _) (by omega)
theorem slice3_sound {t:TypeId} {x y z:Operand} {lo:Option Operand} (hop:o.op = .slice t x lo (some y) (some z)) (hv:aval P want h s (.slice t x lo (some y) (some z)) = some (v,ob)) (hob:ob.P) (hr:Rel E s a w g):Runs P o a w (ctx E g a w) pl v:=by
 simp only [aval] at hv;split at hv
 ·rename_i c l b1 k1 n b2 k2 m e hx hlo hy hz hu;split at hv
  ·rename_i ty j hty hj;split at hv
   ·rename_i hsz;split at hv
    ·rename_i xs hl;obtain ⟨rfl,rfl⟩:=some_pair hv;have hob:F.both (F.cutOk xs ((l.getD (true,0)).2) n) (F.eq n m) = true:=hob;simp only [F.both,F.cutOk,F.eq,Bool.and_eq_true,decide_eq_true_eq,beq_iff_eq] at hob;obtain ⟨⟨c0,c1,c2⟩,rfl⟩:=hob;have hD:=(hr.eval hx).one.2.listV hl;obtain ⟨ad,len,cap,e1,e2,e3,hsub⟩:=hD.sub (l:=((l.getD (true,0)).2).toNat) (n:=n.toNat) (by omega) (by omega)
     subst e2;have f1:a.eval y = .int k1 n:=by
      cases h1:evalO s y with
      | none=>simp [h1] at hy
      | some q=>simp [h1] at hy; exact (hr.eval h1).int hy
     have f2:a.eval z = .int k2 n:=by
      cases h1:evalO s z with
      | none=>simp [h1] at hz
      | some q=>simp [h1] at hz; exact (hr.eval h1).int hz
     have hb:(Instr.sliceBounds true xs.length cap (lo.map a.eval) (some (a.eval y)) (some (a.eval z))).run P w = .ok (((l.getD (true,0)).2).toNat,n.toNat,n.toNat) w:=by
      rcases opIx_sound hlo hr with ⟨rfl,rfl⟩ | ⟨y1,k3,q1,n1,rfl,rfl,f3⟩
      ·simp [Instr.sliceBounds,f1,f2];rw [sliceBound_run (by omega) (by omega)]
       simp;rw [sliceBound_run (by omega) (by omega)]
       simp
      ·simp at c0 c1 ⊢;simp [Instr.sliceBounds,f1,f2,f3];rw [sliceBound_run (by omega) (by omega)]
       simp;rw [sliceBound_run (by omega) (by omega)]
       simp;rw [sliceBound_run (by omega) (by omega)]
       simp
     have hrun:(execOp a.eval o).run P w = .ok (.value (.slice (if n.toNat = ((l.getD (true,0)).2).toNat then ad else ad.map (·.add (((l.getD (true,0)).2).toNat * j.size))) (n.toNat - ((l.getD (true,0)).2).toNat) (n.toNat - ((l.getD (true,0)).2).toNat))) w:=by
      simp only [execOp,hop,e1,Sem.run_bind,Instr.sliceAt,run_underlying hu,Result.andThen_ok,Option.map_some];simp [Instr.slice,Sem.run_bind,run_underlying hu,hb,sizeOf,typeInfo,hj]
     refine .mk hrun (SVR.of_one rfl ?_) rfl;rw [hsz];have hle:n.toNat <= xs.length:=by omega
     exact DV.full hsub (by omega) (by omega) (by show ((xs.take n.toNat).drop _).length = _; rw [List.length_drop,List.length_take]; omega)
    ·simp at hv
   ·simp at hv
  ·simp at hv
 ·simp at hv
theorem slice_sound {t:TypeId} {x:Operand} {lo hi mx:Option Operand} (hop:o.op = .slice t x lo hi mx) (hv:aval P want h s (.slice t x lo hi mx) = some (v,ob)) (hob:ob.P) (hr:Rel E s a w g):Runs P o a w (ctx E g a w) pl v:=by
 cases mx with
 | some m=>
  cases hi with
  | none=>simp [aval] at hv
  | some y=>exact slice3_sound hop hv hob hr
 | none=>
  simp only [aval] at hv;split at hv
  ·rename_i n off l hh len e hx hlo hhi hu;split at hv
   ·rename_i j ty hj hty;split at hv
    case isFalse=>cases hv
    rename_i hcd;obtain ⟨_,_,_,b0,b1,b2,b3⟩:=hcd;obtain ⟨rfl,rfl⟩:=some_pair hv;have e1:a.eval x = .pointer (some ⟨g.ι n,off,none⟩):=(hr.eval hx).one.2;refine .mk (u:=.slice (some ⟨g.ι n,off + ((l.getD (true,0)).2).toNat * j.size,none⟩) (((hh.getD (true,(len:Int))).2).toNat - ((l.getD (true,0)).2).toNat) (len - ((l.getD (true,0)).2).toNat)) ?_ (SVR.of_one rfl rfl) rfl;have hb:(Instr.sliceBounds false len len (lo.map a.eval) (hi.map a.eval) none).run P w = .ok (((l.getD (true,0)).2).toNat,((hh.getD (true,(len:Int))).2).toNat,len) w:=by
     rcases opIx_sound hlo hr with ⟨rfl,rfl⟩ | ⟨y1,k1,q1,n1,rfl,rfl,f1⟩ <;> rcases opIx_sound hhi hr with ⟨rfl,rfl⟩ | ⟨y2,k2,q2,n2,rfl,rfl,f2⟩
     ·simp [Instr.sliceBounds]
     ·simp at b0 b1 b2 b3 ⊢;simp [Instr.sliceBounds,f2];rw [sliceBound_run b2 (by omega)]
      simp
     ·simp at b0 b1 b2 b3 ⊢;simp [Instr.sliceBounds,f1];rw [sliceBound_run b0 (by omega)]
      simp
     ·simp at b0 b1 b2 b3 ⊢;simp [Instr.sliceBounds,f1,f2];rw [sliceBound_run (by omega) (by omega)]
      simp;rw [sliceBound_run b0 (by omega)]
      simp
    have hne:¬ len = ((l.getD (true,0)).2).toNat:=by omega
    simp only [execOp,hop,e1,Sem.run_bind,Instr.sliceAt,run_underlying hu,Result.andThen_ok];simp [Instr.sureAddr,Sem.run_bind,hb,sizeOf,typeInfo,hj,hne,Addr.add_mid]
   ·simp at hv
  ·rename_i c l hh e hx hlo hhi hu;split at hv
   ·rename_i ty j hty hj;split at hv
    ·rename_i hsz;split at hv
     ·rename_i xs hl;obtain ⟨rfl,rfl⟩:=some_pair hv;have hD:=(hr.eval hx).one.2.listV hl;have fin:0 <= (l.getD (true,0)).2 -> (l.getD (true,0)).2 <= (hh.getD (true,(xs.length:Int))).2 -> (hh.getD (true,(xs.length:Int))).2 <= xs.length ->
        Runs P o a w (ctx E g a w) pl ⟨.one,[.lst ty ((xs.take ((hh.getD (true,(xs.length:Int))).2).toNat).drop ((l.getD (true,0)).2).toNat)]⟩:=fun b0 b1 b2=>by
       obtain ⟨ad,len,cap,e1,e2,e3,hsub⟩:=hD.sub (l:=((l.getD (true,0)).2).toNat) (n:=((hh.getD (true,(xs.length:Int))).2).toNat) (by omega) (by omega)
       subst e2;have:=sliceList_run (P:=P) (w:=w) hop hr hlo hhi hu hj e1 e3 b0 b1 b2;refine .mk this (SVR.of_one rfl ?_) rfl;rw [hsz];exact hsub
      have two:(cutL xs l hh).2.P -> 0 <= (l.getD (true,0)).2 /\ (l.getD (true,0)).2 <= (hh.getD (true,(xs.length:Int))).2 /\ (hh.getD (true,(xs.length:Int))).2 <= xs.length /\ (cutL xs l hh).1 = (xs.take ((hh.getD (true,(xs.length:Int))).2).toNat).drop ((l.getD (true,0)).2).toNat:=fun hc=>by
       unfold cutL at hc ⊢;split
       ·simp
       ·rename_i hne;split at hc
        ·exact absurd rfl (hne · rfl)
        ·simp only [Cnd.P,F.cutOk,Bool.and_eq_true,decide_eq_true_eq,F.len] at hc;exact ⟨hc.1,of_decide_eq_true hc.2.1,of_decide_eq_true hc.2.2,rfl⟩
      obtain ⟨b0,b1,b2,b3⟩:=two hob;rw [b3];exact fin b0 b1 b2
     ·simp at hv
    ·simp at hv
   ·simp at hv
  ·simp at hv
theorem slice2_sound {t:TypeId} {x:Operand} (hop:o.op = .sliceToArrayPointer t x) (hv:aval P want h s (.sliceToArrayPointer t x) = some (v,ob)) (hr:Rel E s a w g):Runs P o a w (ctx E g a w) pl v:=by
 simp only [aval] at hv;split at hv
 ·rename_i n e b off len cap ty hu hx;split at hv
  ·rename_i hle;obtain ⟨rfl,_⟩:=some_pair hv;have e1:a.eval x = .slice (some ⟨g.ι b,off,none⟩) len cap:=(hr.eval hx).one.2;refine .mk (u:=.pointer (some ⟨g.ι b,off,none⟩)) ?_ (SVR.of_one rfl rfl) rfl;have hnl:¬ len < n:=by omega
   simp [execOp,hop,e1,Sem.run_bind,Instr.arrayAt,run_underlying hu,hnl]
  ·simp at hv
 ·simp at hv
theorem indexAt_run {t e:TypeId} {j:TypeInfo} {k:IntKind} {i:Int} {b off len cap:Nat} (hu:P.underlying t = some (.slice e)) (hj:P.info? e = some j) (h0:0 <= i) (h1:i < len) :
  (Instr.indexAt t (.slice (some ⟨b,off,none⟩) len cap) (.int k i)).run P w = .ok (.pointer (some ⟨b,off + i.toNat * j.size,none⟩)) w:=by
 simp [Instr.indexAt,asIntOf,Sem.run_bind,run_underlying hu,h0,h1,sizeOf,typeInfo,hj,Addr.add_mid]
theorem indexAtArr_run {t e:TypeId} {j:TypeInfo} {k:IntKind} {i:Int} {b off len:Nat} (hu:P.underlying t = some (.array len e)) (hj:P.info? e = some j) (h0:0 <= i) (h1:i < len) :
  (Instr.indexAt t (.pointer (some ⟨b,off,none⟩)) (.int k i)).run P w = .ok (.pointer (some ⟨b,off + i.toNat * j.size,none⟩)) w:=by
 simp [Instr.indexAt,asIntOf,Sem.run_bind,run_underlying hu,h0,h1,sizeOf,typeInfo,hj,Addr.add_mid,Instr.sureAddr]
theorem row_sound {x:Operand} {c:Cell} {q:Place} {t:Ty} {xs:List t.T} (hq:rowOf x c = some q) (hr:Rel E s a w g) (hx:evalO s x = some ⟨.one,[c]⟩) (hl:c.list t = some xs) (hne:0 < xs.length) :
  ∃ b cap,a.eval x = .slice (some ⟨b,0,none⟩) xs.length cap /\ (ctx E g a w).conc q = some (.slice (some ⟨b,0,none⟩) xs.length cap):=by
 have hv:=(hr.eval hx).one.2;have h1:=(hr.eval hx).one.1;have key:∀ {e sz:Nat} {u:Value} {us:List Value},w.ownsRow 0 e sz u xs.length us -> ∃ b cap,u = .slice (some ⟨b,0,none⟩) xs.length cap:=fun {e sz u us} ho=>by
  rcases ho.2 with ⟨_,hn⟩ | ⟨gb,cap,cur,e1,_⟩
  ·omega
  ·exact ⟨gb,cap,e1⟩
 unfold rowOf at hq;split at hq
 ·rename_i e t' l tx;injection hq with hq;subst hq;obtain ⟨⟨us,ho⟩,_,_⟩:=hv;have hll:l.length = xs.length:=by
   simp only [Cell.list] at hl;split at hl
   ·rename_i h; subst h; injection hl with hl; rw [<- hl]
   ·cases hl
  rw [hll] at ho;obtain ⟨b,cap,e1⟩:=key ho;refine ⟨b,cap,e1,?_⟩;show (flat (tv g.dy.out a tx))[0]? = _;rw [tv_own (look_some hx).1,flat_one h1];exact congrArg some e1
 ·rename_i q' e t' l;injection hq with hq;subst hq;obtain ⟨hc,⟨us,ho⟩,_,_⟩:=hv;have hll:l.length = xs.length:=by
   simp only [Cell.list] at hl;split at hl
   ·rename_i h; subst h; injection hl with hl; rw [<- hl]
   ·cases hl
  rw [hll] at ho;obtain ⟨b,cap,e1⟩:=key ho;exact ⟨b,cap,e1,by rw [hc,e1]⟩
 ·cases hq
theorem indexAddr_sound {t:TypeId} {x ix:Operand} (hop:o.op = .indexAddr t x ix) (hv:aval P want h s (.indexAddr t x ix) = some (v,ob)) (hob:ob.P) (hr:Rel E s a w g):Runs P o a w (ctx E g a w) pl v:=by
 simp only [aval] at hv;split at hv
 ·rename_i kn k i n off len e hi hx hu;split at hv
  ·rename_i j hj;split at hv
   ·rename_i hb;obtain ⟨rfl,rfl⟩:=some_pair hv;cases h1:evalO s ix with
    | none=>simp [h1] at hi
    | some y=>
     simp [h1] at hi;have e1:=(hr.eval h1).int hi;have e2:a.eval x = .pointer (some ⟨g.ι n,off,none⟩):=(hr.eval hx).one.2;refine .mk (u:=.pointer (some ⟨g.ι n,off + i.toNat * j.size,none⟩)) ?_ (SVR.of_one rfl rfl) rfl;simp only [execOp,hop,e1,e2,Sem.run_bind];rw [indexAtArr_run hu hj hb.1 hb.2];rfl
   ·simp at hv
  ·rename_i j hj;split at hv
   ·rename_i ty hty;split at hv
    ·rename_i hsz;obtain ⟨rfl,rfl⟩:=some_pair hv;have hb:0 <= i /\ i < len:=by
      have:F.within i len = true:=hob;simpa [F.within] using this
     cases h1:evalO s ix with
     | none=>simp [h1] at hi
     | some y=>
      simp [h1] at hi;have e1:=(hr.eval h1).int hi;have e2:a.eval x = .pointer (some ⟨g.ι n,off,none⟩):=(hr.eval hx).one.2;refine .mk (u:=.pointer (some ⟨g.ι n,off + i.toNat * ty.n + 0,none⟩)) ?_ (SVR.of_one rfl ⟨rfl,hb⟩) rfl;simp only [execOp,hop,e1,e2,Sem.run_bind];rw [indexAtArr_run hu hj hb.1 hb.2,hsz];rfl
    ·simp at hv
   ·simp at hv
  ·simp at hv
 ·rename_i kn k i ds len e hi hx hu;split at hv
  ·rename_i j hj;split at hv
   ·rename_i hb;obtain ⟨rfl,rfl⟩:=some_pair hv;cases h1:evalO s ix with
    | none=>simp [h1] at hi
    | some y=>
     simp [h1] at hi;have e1:=(hr.eval h1).int hi;obtain ⟨b,off,e2,hc⟩:=(hr.eval hx).one.2;refine .mk (u:=.pointer (some ⟨b,off + i.toNat * j.size,none⟩)) ?_ (SVR.of_one rfl ⟨b,off + i.toNat * j.size,rfl,DPV.drop hc⟩) rfl;simp only [execOp,hop,e1,e2,Sem.run_bind];rw [indexAtArr_run hu hj hb.1 hb.2];rfl
   ·simp at hv
  ·rename_i j hj;split at hv
   ·rename_i t' x' ty hty;split at hv
    ·rename_i xs hxs;split at hv
     ·rename_i hsz;obtain ⟨rfl,hsz,hln⟩:=hsz;obtain ⟨rfl,rfl⟩:=some_pair hv;obtain ⟨b0,b1⟩:=F.get_some hob;cases h1:evalO s ix with
      | none=>simp [h1] at hi
      | some y=>
       simp [h1] at hi;have e1:=(hr.eval h1).int hi;obtain ⟨b,off,e2,hc⟩:=(hr.eval hx).one.2;obtain ⟨c1,c2⟩:=elemDP (c:=ctx E g a w) (t:=t') hc hln hxs b1;refine .mk (u:=.pointer (some ⟨b,off + i.toNat * j.size,none⟩)) ?_ (SVR.of_one rfl ⟨b,off + i.toNat * j.size,rfl,by rw [hsz]; exact c2⟩) rfl
       simp only [execOp,hop,e1,e2,Sem.run_bind];rw [indexAtArr_run hu hj b0 (by omega)]
       rfl
     ·simp at hv
    ·simp at hv
   ·simp at hv
  ·simp at hv
 ·rename_i kn k i c e hi hx hu;split at hv
  ·split at hv
   ·rename_i q ty j hq hty hj;split at hv
    ·rename_i hsz;split at hv
     ·rename_i xs hl;obtain ⟨rfl,rfl⟩:=some_pair hv;have hb:0 <= i /\ i < (xs.length:Int):=by
       have:F.has xs i = true:=hob;simpa [F.has] using this
      cases h1:evalO s ix with
      | none=>simp [h1] at hi
      | some y=>
       simp [h1] at hi;have e1:=(hr.eval h1).int hi;obtain ⟨b,cap,k1,k2⟩:=row_sound hq hr hx hl (by omega)
       refine .mk (u:=.pointer (some ⟨b,i.toNat * ty.n + 0,none⟩)) ?_ (SVR.of_one rfl ⟨b,xs.length,cap,k2,rfl,hb⟩) rfl;simp only [execOp,hop,e1,k1,Sem.run_bind];rw [indexAt_run hu hj hb.1 hb.2,hsz,Nat.zero_add];rfl
     ·simp at hv
    ·simp at hv
   ·simp at hv
  ·split at hv
   ·rename_i t' x' ty j hty hj;split at hv
    ·rename_i hsz;split at hv
     ·rename_i xs hl;split at hv
      ·rename_i htt;subst htt;obtain ⟨rfl,rfl⟩:=some_pair hv;obtain ⟨b0,b1⟩:=F.get_some hob;cases h1:evalO s ix with
       | none=>simp [h1] at hi
       | some y=>
        simp [h1] at hi;have e1:=(hr.eval h1).int hi;have hD:=(hr.eval hx).one.2.listV hl;obtain ⟨b,off,cap,e2,hc⟩:=hD.elem b1;have hlt:i < xs.length:=by have:=(List.getElem?_eq_some_iff.1 b1).1; omega
        refine .mk (u:=.pointer (some ⟨b,off + i.toNat * j.size,none⟩)) ?_ (SVR.of_one rfl ⟨b,off + i.toNat * j.size,rfl,by rw [hsz]; exact hc⟩) rfl
        simp only [execOp,hop,e1,e2,Sem.run_bind];rw [indexAt_run hu hj b0 hlt];rfl
      ·simp at hv
     ·simp at hv
    ·simp at hv
   ·simp at hv
 ·simp at hv
theorem index_sound {t:TypeId} {x ix:Operand} (hop:o.op = .index t x ix) (hv:aval P want h s (.index t x ix) = some (v,ob)) (hob:ob.P) (hr:Rel E s a w g):Runs P o a w (ctx E g a w) pl v:=by
 simp only [aval] at hv;split at hv
 ·rename_i kn k i cs len e hi hx hu;cases h1:evalO s ix with
  | none=>simp [h1] at hi
  | some y=>
   simp [h1] at hi;have e1:=(hr.eval h1).int hi;obtain ⟨us,e2,hl,hc⟩:=(hr.eval hx).agg;split at hv
   ·rename_i j hj;split at hv
    ·split at hv
     ·rename_i hb;split at hv
      ·rename_i hag;split at hv
       ·rename_i hlen;obtain ⟨rfl,rfl⟩:=some_pair hv;have hag:=isAggT_run hag w;have hbb:i.toNat * j.size + j.size <= cs.length:=by
         rw [hlen,<- Nat.succ_mul]; exact Nat.mul_le_mul_right _ (by omega)
        have hS:SVR (ctx E g a w) (fun q=>plOf x (i.toNat * j.size + q)) ⟨.agg,(cs.drop (i.toNat * j.size)).take j.size⟩ (.agg ((us.drop (i.toNat * j.size)).take j.size).toArray):=
         SVR.of_agg (by simp; omega) fun q x y hx hy=>by
          rw [List.getElem?_take] at hx hy;split at hx
          ·rename_i hq; rw [if_pos hq] at hy; rw [List.getElem?_drop] at hx hy; exact hc _ x y hx hy
          ·simp at hx
        obtain ⟨c1,c2⟩:=copied hS (pl2:=pl);refine .mk ?_ c1 c2;simp only [execOp,hop,e1,e2,Sem.run_bind];simp [Instr.index,asIntOf,Sem.run_bind,run_underlying hu,hb.1,hb.2,sizeOf,typeInfo,hj,part,hag,List.extract_toArray,List.extract_eq_take_drop]
       ·simp at hv
      ·rename_i hag;have hag:=isAggT_run hag w;split at hv
       ·rename_i c hcq;obtain ⟨rfl,rfl⟩:=some_pair hv;have hlt:i.toNat * j.size < us.length:=by rw [hl]; exact (List.getElem?_eq_some_iff.1 hcq).1
        have hz:=hc _ _ _ hcq (List.getElem?_eq_getElem hlt);refine .mk (u:=us[i.toNat * j.size]) ?_ (SVR.of_one hz.1 (hz.2.copy (want:=false) (fun h=>by cases h))) (by simp [copy_notOwn])
        simp only [execOp,hop,e1,e2,Sem.run_bind];simp [Instr.index,asIntOf,Sem.run_bind,run_underlying hu,hb.1,hb.2,sizeOf,typeInfo,hj,part,hag,List.getElem?_eq_getElem hlt]
       ·simp at hv
      ·simp at hv
     ·simp at hv
    ·split at hv
     ·rename_i t' x' ty g' hty hag;split at hv
      ·rename_i hsz;obtain ⟨hsz,rfl,hlen,hpos⟩:=hsz;split at hv
       ·rename_i l hdl;have hag:=isAggT_run hag w;have key:F.get l i = some x' -> 0 <= i /\ i < len /\ i.toNat * t'.n + t'.n <= us.length /\ ∀ (j:Nat) d y,(enc t' x')[j]? = some d -> us[i.toNat * t'.n + j]? = some y -> y.oneCell' = true /\ DV (ctx E g a w).w (ctx E g a w).k d y:=fun hg=>by
         obtain ⟨b0,b1⟩:=F.get_some hg;obtain ⟨c1,c2⟩:=decsChunks hdl hl hlen hc b1;refine ⟨b0,by omega,?_,c2⟩
         rw [hl,hlen,<- Nat.succ_mul]; exact Nat.mul_le_mul_right _ c1
        split at hv
        ·obtain ⟨rfl,rfl⟩:=some_pair hv;obtain ⟨b0,b1,b2,b3⟩:=key hob;refine .mk (u:=.agg ((us.drop (i.toNat * j.size)).take j.size).toArray) ?_ ?_ toC_notOwn
         ·simp only [execOp,hop,e1,e2,Sem.run_bind];simp [Instr.index,asIntOf,Sem.run_bind,run_underlying hu,b0,b1,sizeOf,typeInfo,hj,part,hag,List.extract_toArray,List.extract_eq_take_drop]
         ·refine SVR.of_agg (by rw [hsz]; simp [enc_length]; omega) fun q z y hz hy=>?_
          rw [List.getElem?_map] at hz;cases hq:(enc t' x')[q]? with
          | none=>rw [hq] at hz; cases hz
          | some d=>
           rw [hq] at hz; injection hz with hz; subst hz
           have hqn:q < t'.n:=by have:=(List.getElem?_eq_some_iff.1 hq).1; rw [enc_length] at this; exact this
           rw [List.getElem?_take,if_pos (by omega),List.getElem?_drop,hsz] at hy
           obtain ⟨d1,d2⟩:=b3 q d y hq hy;exact ⟨d1,toC_sound d2⟩
        ·split at hv
         ·rename_i hn1;obtain ⟨rfl,rfl⟩:=some_pair hv;obtain ⟨b0,b1,b2,b3⟩:=key hob;have hlt:i.toNat * j.size < us.length:=by rw [hsz]; omega
          have hel:=enc_length t' x';rw [hn1] at hel;obtain ⟨d,hd⟩:∃ d,enc t' x' = [d]:=by
           match hh:enc t' x',hel with
           | [d],_=>exact ⟨d,rfl⟩
          rw [hd];obtain ⟨d1,d2⟩:=b3 0 d us[i.toNat * j.size] (by rw [hd]; rfl) (by rw [Nat.add_zero,<- hsz]; exact List.getElem?_eq_getElem hlt)
          refine .mk (u:=us[i.toNat * j.size]) ?_ (SVR.of_one d1 (toC_sound d2)) (by have:=toC_notOwn (ds:=[d]); exact this)
          simp only [execOp,hop,e1,e2,Sem.run_bind];simp [Instr.index,asIntOf,Sem.run_bind,run_underlying hu,b0,b1,sizeOf,typeInfo,hj,part,hag,List.getElem?_eq_getElem hlt]
         ·simp at hv
       ·simp at hv
      ·simp at hv
     ·simp at hv
   ·simp at hv
 ·rename_i kn k i c hi hx hu;cases h1:evalO s ix with
  | none=>simp [h1] at hi
  | some y=>
   simp [h1] at hi;have e1:=(hr.eval h1).int hi;obtain ⟨o1,hcv⟩:=(hr.eval hx).one;split at hv
   ·rename_i kb b x' hval;have e2:a.eval x = .string b:=Cell.val_sound hcv hval;obtain ⟨rfl,rfl⟩:=some_pair hv;obtain ⟨b0,b1⟩:=F.get_some hob;have hby:∃ c:UInt8,b[i.toNat]? = some c /\ (c.toNat:Int) = x':=by
     unfold F.bytes at b1;rw [List.getElem?_map] at b1;cases hc:b.data.toList[i.toNat]? with
     | none=>rw [hc] at b1; cases b1
     | some c=>
      rw [hc] at b1;injection b1 with b1;refine ⟨c,?_,b1⟩;obtain ⟨h2,h3⟩:=List.getElem?_eq_some_iff.1 hc;have hlt:i.toNat < b.size:=by rw [Array.length_toList] at h2; exact h2
      rw [getElem?_pos b i.toNat hlt]
      congr 1
    obtain ⟨c',hc1,hc2⟩:=hby;refine .mk (u:=.int .u8 x') ?_ (SVR.of_one rfl rfl) rfl;simp only [execOp,hop,e1,e2,Sem.run_bind];have hrun:(Instr.index t (.string b) (.int k i)).run P w = .ok (.int .u8 x') w:=by
     unfold Instr.index;simp only [asIntOf,Sem.run_bind,Sem.run_pure,Result.andThen_ok,run_underlying hu,if_pos b0,hc1,hc2]
    rw [hrun];rfl
   ·simp at hv
 ·simp at hv
theorem setFrom_sound {c:Ctx} {pl:Nat -> Place}:∀ (ys:List Cell) (vs:List Value) (cs:List Cell) (us:Array Value) (i:Nat) ,ys.any Cell.isOwn = false -> vs.length = ys.length -> us.size = cs.length -> cs.any Cell.isOwn = false ->
  (∀ (j:Nat) x y,cs[j]? = some x -> us[j]? = some y -> y.oneCell' = true /\ CV c (pl j) x y) -> (∀ (j:Nat) x y,ys[j]? = some x -> vs[j]? = some y -> y.oneCell' = true /\ ∃ p,CV c p x y) ->
  (∀ (n:Nat),((vs.zipIdx n).foldl (fun (q:Array Value) (z:Value × Nat)=>q.setIfInBounds (i + z.2 - n) z.1) us).size = (setFrom cs i ys).length) /\ (setFrom cs i ys).any Cell.isOwn = false /\
  ∀ (n j:Nat) x y,(setFrom cs i ys)[j]? = some x -> ((vs.zipIdx n).foldl (fun (q:Array Value) (z:Value × Nat)=>q.setIfInBounds (i + z.2 - n) z.1) us)[j]? = some y -> y.oneCell' = true /\ CV c (pl j) x y
 | [],[],cs,us,i,_,_,hl,ho,hc,_=>by simp [setFrom,hl]; exact ⟨by simpa using ho,hc⟩
 | [],v :: vs,_,_,_,_,h,_,_,_,_=>by simp at h
 | y :: ys,[],_,_,_,_,h,_,_,_,_=>by simp at h
 | y :: ys,v :: vs,cs,us,i,hoy,hlv,hl,ho,hc,hy=>by
  have hy0:=hy 0 y v rfl rfl;simp at hoy;have hset:∀ j x z,(cs.set i y)[j]? = some x -> (us.setIfInBounds i v)[j]? = some z -> z.oneCell' = true /\ CV c (pl j) x z:=fun j x z hx hz=>by
   rw [List.getElem?_set] at hx;rw [Array.getElem?_setIfInBounds] at hz;by_cases hij:i = j
   ·subst hij;simp at hx hz;obtain ⟨_,rfl⟩:=hx;obtain ⟨_,rfl⟩:=hz;obtain ⟨a1,p,a2⟩:=hy0;exact ⟨a1,a2.place hoy.1⟩
   ·simp [hij] at hx hz;exact hc j x z hx hz
  have hos:(cs.set i y).any Cell.isOwn = false:=by
   rw [List.any_eq_false] at ho ⊢;intro x hx;rcases List.mem_or_eq_of_mem_set hx with h | h
   ·exact ho x h
   ·subst h; simp [hoy.1]
  obtain ⟨r1,r2,r3⟩:=setFrom_sound ys vs (cs.set i y) (us.setIfInBounds i v) (i + 1) (by simp; exact hoy.2) (by simpa using hlv) (by simp [hl]) hos hset (fun j x z hx hz=>hy (j + 1) x z (by simpa using hx) (by simpa using hz))
  have e:∀ n,((v :: vs).zipIdx n).foldl (fun (q:Array Value) (z:Value × Nat)=>q.setIfInBounds (i + z.2 - n) z.1) us =
    (vs.zipIdx (n + 1)).foldl (fun (q:Array Value) (z:Value × Nat)=>q.setIfInBounds (i + 1 + z.2 - (n + 1)) z.1) (us.setIfInBounds i v):=fun n=>by
   rw [List.zipIdx_cons,List.foldl_cons,Nat.add_sub_cancel]
   congr 1
   funext q z
   congr 1
   omega
  exact ⟨fun n=>by rw [e n]; exact r1 (n + 1),r2,fun n j x z hx hz=>r3 (n + 1) j x z hx (by rw [<- e n]; exact hz)⟩
theorem opPl_conc {x:Operand} {c:Cell} (hc:evalO s x = some ⟨.one,[c]⟩) (hr:Rel E s a w g):(a.eval x).oneCell' = true /\ CV (ctx E g a w) (opPl x) c (a.eval x) /\ (c.isOwn = true -> (ctx E g a w).conc (opPl x) = some (a.eval x)):=by
 cases x with
 | tmp t=>
  obtain ⟨k1,k2⟩:=look_some hc;have k3:=hr.slots t _ k2;have k4:=hr.conc k2;rw [tv_own k1] at k3 k4;obtain ⟨h1,h2⟩:=SVR.one k3;exact ⟨h1,h2,fun _=>k4 0 _ (by rw [flat_one h1]; rfl)⟩
 | _=>
  obtain ⟨h1,h2⟩:=(hr.eval hc).one;have ho:=evalO_notOwn (by simp) hc
  simp at ho;exact ⟨h1,h2.place (by simp [ho]),fun h=>by simp [ho] at h⟩
theorem evalParts_sound {want:Bool}:∀ {l:List (Nat × Operand)} {ps:List (Nat × List Cell)},evalParts want s l = some ps -> Rel E s a w g ->
  ∃ vs:List (Nat × Value),l.map (fun q=>(q.1,a.eval q.2)) = vs /\ vs.length = ps.length /\ ∀ (i:Nat) x y,ps[i]? = some x -> vs[i]? = some y -> x.1 = y.1 /\ x.2.any Cell.isOwn = false /\ y.2.cells.size = x.2.length /\
   ∀ (j:Nat) c u,x.2[j]? = some c -> y.2.cells[j]? = some u -> u.oneCell' = true /\ ∃ p,CV (ctx E g a w) p c u
 | [],ps,hx,_=>by simp [evalParts] at hx; subst hx; exact ⟨[],rfl,rfl,by simp⟩
 | (i,x) :: r,ps,hx,hr=>by
  simp only [evalParts] at hx;split at hx
  ·rename_i c hc;cases h1:evalParts want s r with
   | none=>simp [h1] at hx
   | some qs=>
    simp [h1] at hx; subst hx;obtain ⟨vs,e,hl,ih⟩:=evalParts_sound h1 hr;obtain ⟨k1,k2,k3⟩:=opPl_conc hc hr;refine ⟨(i,a.eval x) :: vs,by simp [e],by simp [hl],fun j q z hq hz=>?_⟩
    cases j with
    | zero=>
     simp at hq hz; subst hq hz;refine ⟨rfl,by simp [copy_notOwn],by simp [cells_one k1],fun n c' u hc' hu=>?_⟩
     simp only [cells_one k1] at hu;cases n with
     | zero=>simp at hc' hu; subst hc' hu; exact ⟨k1,.slot 0 0,k2.copy (want:=want) (fun _ h=>k3 h)⟩
     | succ n=>simp at hc'
    | succ j=>exact ih j q z (by simpa using hq) (by simpa using hz)
  ·rename_i cs hc;cases h1:evalParts want s r with
   | none=>simp [h1] at hx
   | some qs=>
    simp [h1] at hx; subst hx;obtain ⟨vs,e,hl,ih⟩:=evalParts_sound h1 hr;obtain ⟨us,e1,hlu,hcu⟩:=(hr.eval hc).agg;refine ⟨(i,a.eval x) :: vs,by simp [e],by simp [hl],fun j q z hq hz=>?_⟩
    cases j with
    | zero=>
     simp at hq hz; subst hq hz;refine ⟨rfl,copyCells_notOwn _ _,by simp [e1,Value.cells,copyCells_length,hlu],fun n c' u hc' hu=>?_⟩
     simp [e1,Value.cells] at hu;rw [copyCells_get] at hc';cases hcn:cs[n]? with
     | none=>simp [hcn] at hc'
     | some c0=>
      simp [hcn] at hc'; subst hc';obtain ⟨a1,a2⟩:=hcu n c0 u hcn hu;exact ⟨a1,.slot 0 0,a2.copy (want:=false) (fun h=>by cases h)⟩
    | succ j=>exact ih j q z (by simpa using hq) (by simpa using hz)
  ·simp at hx
theorem fillCells_sound {c:Ctx} {pl:Nat -> Place} {place place':Nat -> Option (Nat × Nat)} (hpl:∀ i q,place i = some q -> place' i = some q):∀ (ps:List (Nat × List Cell)) (vs:List (Nat × Value)) (cs r:List Cell) (us:Array Value),fillCells place cs ps = some r ->
  vs.length = ps.length -> us.size = cs.length -> cs.any Cell.isOwn = false -> (∀ (j:Nat) x y,cs[j]? = some x -> us[j]? = some y -> y.oneCell' = true /\ CV c (pl j) x y) ->
  (∀ (i:Nat) x y,ps[i]? = some x -> vs[i]? = some y -> x.1 = y.1 /\ x.2.any Cell.isOwn = false /\ y.2.cells.size = x.2.length /\ ∀ (j:Nat) c' u,x.2[j]? = some c' -> y.2.cells[j]? = some u -> u.oneCell' = true /\ ∃ p,CV c p c' u) ->
  ∃ rs:Array Value,Instr.fill place' us vs = some rs /\ rs.size = r.length /\ r.any Cell.isOwn = false /\ ∀ (j:Nat) x y,r[j]? = some x -> rs[j]? = some y -> y.oneCell' = true /\ CV c (pl j) x y
 | [],[],cs,r,us,h,_,hl,ho,hc,_=>by simp [fillCells] at h; subst h; exact ⟨us,rfl,hl,ho,hc⟩
 | [],_ :: _,_,_,_,_,h,_,_,_,_=>by simp at h
 | _ :: _,[],_,_,_,_,h,_,_,_,_=>by simp at h
 | (i,ys) :: ps,(i',v) :: vs,cs,r,us,h,hlv,hl,ho,hc,hy=>by
  obtain ⟨e1,o1,s1,c1⟩:=hy 0 _ _ rfl rfl;simp only at e1 o1 s1 c1;subst e1;simp only [fillCells] at h;split at h
  ·simp at h
  ·rename_i off size hp;split at h
   ·rename_i hsz;obtain ⟨r1,r2,r3⟩:=setFrom_sound ys v.cells.toList cs us off o1 (by simpa using s1) hl ho hc (fun j x y hx hy=>c1 j x y hx (by simpa using hy))
    obtain ⟨rs,f1,f2,f3,f4⟩:=fillCells_sound hpl ps vs _ r _ h (by simpa using hlv) (r1 0) r2 (r3 0) (fun j x y hx hz=>hy (j + 1) x y (by simpa using hx) (by simpa using hz))
    refine ⟨rs,?_,f2,f3,f4⟩;simp only [Instr.fill,hpl i _ hp];rw [if_neg (by simp; omega)]
    rw [<- f1]
    congr 1
    rw [<- Array.foldl_toList,Array.toList_zipIdx];simp
   ·simp at h
theorem zeroCells_sound {t:TypeId} {z:List Cell} (hz:zeroCells P t = some z) (c:Ctx) (pl:Nat -> Place):∃ v:Value,∃ i,P.info? t = some i /\ i.zero = some v /\ v.cells.size = i.size /\ v.cells.size = z.length /\ z.any Cell.isOwn = false /\
  ∀ (j:Nat) x y,z[j]? = some x -> v.cells[j]? = some y -> y.oneCell' = true /\ CV c (pl j) x y:=by
 unfold zeroCells at hz;split at hz
 ·rename_i i hi;split at hz
  ·rename_i v hv;split at hz
   ·rename_i hs;obtain ⟨h1,h2,h3⟩:=constCells_sound (c:=c) (pl:=pl) hz;exact ⟨v,i,hi,hv,hs,by simpa using h1,h2,fun j x y hx hy=>h3 j x y hx (by simpa using hy)⟩
   ·simp at hz
  ·simp at hz
 ·simp at hz
theorem build_sound {t:TypeId} {parts:Array (Nat × Operand)} (hop:o.op = .build t parts) (hv:aval P want h s (.build t parts) = some (v,ob)) (hr:Rel E s a w g):Runs P o a w (ctx E g a w) pl v:=by
 simp only [aval] at hv;split at hv
 ·rename_i z ps hz hps;obtain ⟨zv,zi,z1,z2,z3,z4,z5,z6⟩:=zeroCells_sound hz (ctx E g a w) pl;obtain ⟨vs,e,hl,hc⟩:=evalParts_sound hps hr;have hmap:(parts.map fun q=>(q.1,a.eval q.2)).toList = vs:=by rw [Array.toList_map,<- e]
  have fin:∀ (place place':Nat -> Option (Nat × Nat)) (cs:List Cell),(∀ i q,place i = some q -> place' i = some q) -> fillCells place z ps = some cs ->
    (∀ rs,Instr.fill place' zv.cells vs = some rs -> P.built t (parts.map fun q=>(q.1,a.eval q.2)).toList = some rs) -> Runs P o a w (ctx E g a w) pl ⟨.agg,cs⟩:=fun place place' cs hp hf hb=>by
   obtain ⟨rs,f1,f2,f3,f4⟩:=fillCells_sound (c:=ctx E g a w) (pl:=pl) hp ps vs z cs zv.cells hf hl z4 z5 z6 hc;refine .mk (u:=.agg rs) ?_ ?_ f3
   ·simp only [execOp,hop,Sem.run_bind];rw [run_build w t _ rs (hb rs f1)];rfl
   ·have:=SVR.of_agg (c:=ctx E g a w) (pl:=pl) (cs:=cs) (us:=rs.toList) (by simpa using f2) (fun i x y hx hy=>f4 i x y hx (by simpa using hy))
    simpa using this
  split at hv
  ·rename_i fields hu;split at hv
   ·rename_i places hpl;cases hf:fillCells (fun i=>places[i]?) z ps with
    | none=>simp [hf] at hv
    | some cs=>
     rw [hf] at hv;obtain ⟨rfl,_⟩:=some_pair hv;refine fin _ (fun i=>places.toArray[i]?) cs (fun i q h=>by simpa using h) hf fun rs hrs=>?_
     rw [hmap];simp only [Program.built,z1,hu,z2,hpl];exact hrs
   ·simp at hv
  ·rename_i n el hu;split at hv
   ·rename_i j hj;cases hf:fillCells (fun i=>some (i * j.size,j.size)) z ps with
    | none=>simp [hf] at hv
    | some cs=>
     rw [hf] at hv;obtain ⟨rfl,_⟩:=some_pair hv;refine fin _ _ cs (fun i q h=>h) hf fun rs hrs=>?_
     rw [hmap];simp only [Program.built,z1,hu,z2,hj];exact hrs
   ·simp at hv
  ·simp at hv
 ·simp at hv
theorem numT_run {t:TypeId} {cs:Array Value} {off:Nat} (h:numT P t = true) (ho:off < cs.size) (w:World):(∃ d k,d = TypeDesc.int k /\ P.underlying t = some d) /\ (part t cs off).run P w = .ok cs[off] w /\ (sizeOf t).run P w = .ok 1 w:=by
 unfold numT at h;split at h
 ·rename_i k j hu hj hg;have hg:=isAggT_run hg w;have hs:j.size = 1:=by simpa using h
  refine ⟨⟨_,_,rfl,hu⟩,?_,?_⟩
  ·simp only [part,Sem.run_bind,hg,Result.andThen_ok];simp [Array.getElem?_eq_getElem ho]
  ·simp [sizeOf,typeInfo,hj,hs]
 ·cases h
theorem num_key {t:TypeId} {k:IntKind} (h:P.underlying t = some (.int k)) (em:Bool) (n:Nat) (v:Value) (w:World):(Instr.checkKey em (n + 1) t v).run P w = .ok () w:=by
 rw [Instr.checkKey];simp only [Sem.run_bind,run_underlying h,Result.andThen_ok];cases v <;> rfl
theorem keyFit_run {t:TypeId} {x:SV} {u:Value} {c:Ctx} {pl:Nat -> Place} (h:keyFit P t x = true) (hx:SVR c pl x u) (em:Bool) (w:World):(Instr.checkKey em 10000 t u).run P w = .ok () w:=by
 unfold keyFit at h;split at h
 ·rename_i k hu;exact num_key hu em 9999 u w
 ·rename_i fs hu hsh;obtain ⟨sh,cs⟩:=x;simp only at hsh h;subst hsh;obtain ⟨us,rfl,hl,_⟩:=hx.agg;rw [show (10000:Nat) = 9999 + 1 from rfl,Instr.checkKey];simp only [Sem.run_bind,run_underlying hu,Result.andThen_ok];rw [<- Array.forIn_toList];generalize fs.toList = L at h;induction L with
  | nil=>simp
  | cons f L ih=>
   simp only [List.all_cons,Bool.and_eq_true,decide_eq_true_eq] at h;obtain ⟨⟨h1,h2⟩,h3⟩:=h;obtain ⟨⟨_,k,rfl,e1⟩,e2,_⟩:=numT_run (cs:=us.toArray) (off:=f.offset) h1 (by simpa [hl] using h2) w
   have e3:=num_key e1 em 9998 (us.toArray[f.offset]'(by simpa [hl] using h2)) w
   by_cases hn:f.name = "_"
   ·simp only [List.forIn_cons,Sem.run_bind,hn,ne_eq,not_true_eq_false,if_false,Sem.run_pure,Result.andThen_ok];exact ih h3
   ·simp only [List.forIn_cons,Sem.run_bind,hn,ne_eq,not_false_eq_true,if_true,Result.andThen_ok,e2,e3,Sem.run_pure];exact ih h3
 ·rename_i n e hu hsh;obtain ⟨sh,cs⟩:=x;simp only at hsh h;subst hsh;obtain ⟨us,rfl,hl,_⟩:=hx.agg;rw [Bool.and_eq_true,decide_eq_true_eq] at h;obtain ⟨h1,h2⟩:=h;rw [show (10000:Nat) = 9999 + 1 from rfl,Instr.checkKey];simp only [Sem.run_bind,run_underlying hu,Result.andThen_ok];simp only [Std.Legacy.Range.forIn_eq_forIn_range',Std.Legacy.Range.size,Nat.sub_zero,Nat.add_one_sub_one,Nat.div_one];have each:∀ j ∈ List.range' 0 n,j < us.toArray.size:=fun j hj=>by
   have:=List.mem_range'_1.1 hj;simp;omega
  generalize List.range' 0 n = is at each;induction is with
  | nil=>simp
  | cons j is ih=>
   have hj:=each j (by simp)
   obtain ⟨⟨_,k,rfl,e1⟩,e2,e4⟩:=numT_run (cs:=us.toArray) (off:=j) h1 hj w;have e3:=num_key e1 em 9998 (us.toArray[j]) w;simp only [List.forIn_cons,Sem.run_bind,e4,Result.andThen_ok,Nat.mul_one,e2,e3,Sem.run_pure];exact ih (fun y hy=>each y (by simp [hy]))
 ·cases h
theorem lookup_sound {t:TypeId} {x ix:Operand} {b:Bool} (hop:o.op = .lookup t x ix b) (hv:aval P want h s (.lookup t x ix b) = some (v,ob)) (hr:Rel E s a w g):Runs P o a w (ctx E g a w) pl v:=by
 simp only [aval] at hv;split at hv
 ·rename_i kt vt iv hx hu hi;split at hv
  ·rename_i z hk hz;obtain ⟨m,e1,hm⟩:=(hr.eval hx).one.2;have hm:w.heap[m]? = some (.map #[] 0):=hm;have hck:=keyFit_run (P:=P) hk (hr.eval hi) true w;unfold zeroSV at hz;split at hz
   ·rename_i zi z1;split at hz
    ·rename_i zv z2;have hzr:(zeroValue vt).run P w = .ok zv w:=by simp [zeroValue,typeInfo,z1,z2]
     have hlook:(Instr.lookup t (a.eval x) (a.eval ix) b).run P w = .ok (if b then .tuple #[zv,.bool false] else zv) w:=by
      have hfk:(Instr.findKey kt (a.eval ix) []).run P w = .ok none w:=by
       unfold Instr.findKey;cases hku:P.underlying kt with
       | none=>simp [keyFit,hku] at hk
       | some d=>simp [run_underlying hku,Instr.findNow]
      simp [Instr.lookup,run_underlying hu,e1,MapKept.run_getObj_map hm,hck,hfk,hzr]
     have hrun:(execOp a.eval o).run P w = .ok (.value (if b then .tuple #[zv,.bool false] else zv)) w:=by
      simp only [execOp,hop,Sem.run_bind,hlook];rfl
     obtain ⟨k1,k2⟩:=constSV_sound (c:=ctx E g a w) (pl:=pl) hz;cases b with
     | false=>
      obtain ⟨rfl,_⟩:=some_pair hv;exact .mk hrun k1 k2
     | true=>
      obtain ⟨rfl,_⟩:=some_pair hv;have hto:(z.cs ++ [Cell.c (.bool false)]).any Cell.isOwn = false:=by
       rw [List.any_append,k2]; rfl
      obtain ⟨sh,cs⟩:=z;have fin:∀ us:List Value,us.length = cs.length -> Shape.mk (.tup [(sh.isAgg,cs.length),(false,1)]) (us ++ [.bool false]) = .tuple #[zv,.bool false] -> zv.cells.toList = us -> (∀ i x y,cs[i]? = some x -> us[i]? = some y -> y.oneCell' = true /\ CV (ctx E g a w) (pl i) x y) -> Runs P o a w (ctx E g a w) pl ⟨.tup [(sh.isAgg,cs.length),(false,1)],cs ++ [.c (.bool false)]⟩:=fun us h1 h2 h3 h4=>by
       rw [if_pos rfl] at hrun;refine .mk hrun ⟨us ++ [.bool false],h2.symm,by rw [<- h3]; rfl,by simp [h1],fun i x y hx hy=>?_⟩ hto
       rw [List.getElem?_append] at hx hy;rw [h1] at hy;split at hx
       ·rename_i hi;rw [if_pos hi] at hy;exact h4 i x y hx hy
       ·rename_i hi;rw [if_neg hi] at hy;cases hj:i - cs.length with
        | zero=>rw [hj] at hx hy; simp at hx hy; subst hx; subst hy; exact ⟨rfl,rfl⟩
        | succ j=>rw [hj] at hx; simp at hx
      cases sh with
      | agg=>
       obtain ⟨us,rfl,h1,h2⟩:=k1.agg;refine fin us h1 ?_ rfl h2;simp [Shape.mk,Shape.isAgg,comps,<- h1]
      | one=>
       obtain ⟨us,e5,e6,e7,e8⟩:=k1;have h1:zv.oneCell' = true /\ cs.length = 1:=by
        unfold constSV at hz;split at hz
        ·simp at hz
        ·cases hz
        ·cases hcc:constCell zv with
         | none=>rw [hcc] at hz; cases hz
         | some c0=>
          rw [hcc] at hz;simp at hz;subst hz;have hl:us.length = 1:=by simpa using e7
          obtain ⟨y,rfl⟩:=List.length_eq_one_iff.1 hl;have:zv = y:=e5;subst this;exact ⟨(e8 0 _ _ rfl rfl).1,rfl⟩
       refine fin us e7 ?_ (by rw [cells_one h1.1,<- e6,flat_one h1.1]) e8
       have hus:us = [zv]:=by rw [<- e6,flat_one h1.1]
       rw [hus];simp [Shape.mk,Shape.isAgg,comps]
      | tup l=>
       exfalso;unfold constSV at hz;split at hz
       ·simp at hz
       ·cases hz
       ·cases hcc:constCell zv with
        | none=>rw [hcc] at hz; cases hz
        | some c0=>rw [hcc] at hz; simp at hz
    ·cases hz
   ·cases hz
  ·simp at hv
 ·simp at hv
theorem next_sound {x:Operand} {str:Bool} (hop:o.op = .next x str) (hv:aval P want h s (.next x str) = some (v,ob)) (hr:Rel E s a w g):Runs P o a w (ctx E g a w) pl v:=by
 simp only [aval] at hv;split at hv
 ·rename_i hx;obtain ⟨rfl,_⟩:=some_pair hv;obtain ⟨r,m,e1,h1,h2⟩:=(hr.eval hx).one.2;have h1:w.heap[r]? = some (.mapIter (some m) 0 #[] 0):=h1;have h2:w.heap[m]? = some (.map #[] 0):=h2;have hrun:(execOp a.eval o).run P w = .ok (.value (.tuple #[.bool false])) w:=by
   have hn:(Instr.next (a.eval x) false o.type).run P w = .ok (.tuple #[.bool false]) w:=by
    rw [e1];simp [Instr.next,getObj,Sem.run,h1,h2,Result.andThen,choose,Question.forced]
   simp only [execOp,hop,Sem.run_bind,hn];rfl
  exact .mk hrun ⟨[.bool false],rfl,rfl,rfl,fun i x y hx hy=>by
   cases i with
   | zero=>simp at hx hy; subst hx; subst hy; exact ⟨rfl,rfl⟩
   | succ i=>simp at hx⟩ rfl
 ·simp at hv
theorem aval_sound (hv:aval P want h s o.op = some (v,ob)) (hob:ob.P) (hr:Rel E s a w g):Runs P o a w (ctx E g a w) pl v:=by
 cases hop:o.op <;> rw [hop] at hv
 case move=>exact move_sound hop hv hr
 case assign=>exact assign_sound hop hv hr
 case pick=>exact pick_sound hop hv hr
 case build=>exact build_sound hop hv hr
 case load=>exact load_sound hop hv hob hr
 case nilCheck=>exact nilCheck_sound hop hv hr
 case binOp=>exact binOp_sound hop hv hob hr
 case unOp=>exact unOp_sound hop hv hr
 case convert=>exact convert_sound hop hv hr
 case makeFunc=>exact makeFunc_sound hop hv hr
 case slice=>exact slice_sound hop hv hob hr
 case sliceToArrayPointer=>exact slice2_sound hop hv hr
 case fieldAddr=>exact fieldAddr_sound hop hv hr
 case field=>exact field_sound hop hv hr
 case indexAddr=>exact indexAddr_sound hop hv hob hr
 case index=>exact index_sound hop hv hob hr
 case extract=>exact extract_sound hop hv hr
 case lookup=>exact lookup_sound hop hv hr
 case next=>exact next_sound hop hv hr
 case call=>exact call_sound hop hv hr
 all_goals simp [aval] at hv
end Go.Proofs.YthnagpmnoncijaaGreat.M
