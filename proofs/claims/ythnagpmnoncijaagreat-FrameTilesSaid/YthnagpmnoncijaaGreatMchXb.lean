/- A part of the proof. -/
import Derived.Test.YthnagpmnoncijaaGreatMchXa
set_option linter.unusedVariables false
namespace Go.Proofs.YthnagpmnoncijaaGreat.M
open Go Go.RowKit
section
variable {P:Program} {N U:Nat} {T:List Ent}
def CT.fresh:CT -> Bool
 | .dat _=>true
 | .kint _ _=>true
 | .kbool _=>true
 | .nils=>true
 | .imm _=>true
 | .clo _ []=>true
 | _=>false
theorem enc_fresh:∀ (t:Ty) (x:t.T),∀ c ∈ (enc t x).map D.toC,c.fresh = true
 | .int k,x,c,h=>by simp [enc] at h; subst h; rfl
 | .bool,x,c,h=>by simp [enc] at h; subst h; rfl
 | .str,x,c,h=>by simp [enc] at h; subst h; rfl
 | .list t,x,c,h=>by simp [enc] at h; subst h; rfl
 | .unit,x,c,h=>by simp [enc] at h
 | .pair a b,x,c,h=>by
  simp only [enc,List.map_append] at h;rcases List.mem_append.1 h with h | h
  ·exact enc_fresh a x.1 c h
  ·exact enc_fresh b x.2 c h
theorem emb_fresh:∀ {C:List CT} (x:ctsT C Unit),C.all CT.fresh = true -> ∀ c ∈ (ctsEmb C x).1,c.fresh = true
 | [],x,h,c,hc=>by simp [ctsEmb] at hc
 | q :: C,x,h,c,hc=>by
  simp only [List.all_cons,Bool.and_eq_true] at h;simp only [ctsEmb] at hc;rcases List.mem_append.1 hc with hc | hc
  ·cases q with
   | dat t=>exact enc_fresh t x.1 c hc
   | kint k n=>simp [CT.emb] at hc; subst hc; rfl
   | kbool b=>simp [CT.emb] at hc; subst hc; rfl
   | nils=>simp [CT.emb] at hc; subst hc; rfl
   | imm k=>simp [CT.emb] at hc; subst hc; rfl
   | clo f caps=>
    cases caps with
    | nil=>simp [CT.emb] at hc; subst hc; rfl
    | cons=>simp [CT.fresh] at h
   | _=>simp [CT.fresh] at h
  ·exact emb_fresh _ h.2 c hc
theorem finN_some {rs:List ResultVar} {te:Nat} {C:List CT} {e:Exit} {s:St} {x:ctsT C Unit} (h:finN P rs te C e s = some x) :
  (e = .normal \/ e = .ret) /\ ∃ n cs f,resOf P s rs = some [⟨.one,[.ptr n 0]⟩] /\ s.box? n = some (te,cs) /\ ctsDec (R:=Unit) C cs = some f /\ f () = x:=by
 have go:∀ (h9:finN P rs te C .normal s = some x),∃ n cs f,resOf P s rs = some [⟨.one,[.ptr n 0]⟩] /\ s.box? n = some (te,cs) /\ ctsDec (R:=Unit) C cs = some f /\ f () = x:=fun h9=>by
  simp only [finN] at h9;split at h9
  ·rename_i n h1;split at h9
   ·rename_i e' cs h2;split at h9
    ·rename_i f h3 h4;injection h9 with h9;rw [Bool.and_eq_true] at h3;have h5:=Nat.eq_of_beq_eq_true h3.1;subst h5;exact ⟨n,cs,f,h1,h2,h4,h9⟩
    ·cases h9
   ·cases h9
  ·cases h9
 cases e with
 | normal=>exact ⟨.inl rfl,go h⟩
 | ret=>exact ⟨.inr rfl,go h⟩
 | _=>cases h
theorem NEnt.of (hT:∀ e ∈ T,Ent.Ok P e) (hmo:P.follows .mixedOrders = true) {f:Nat} {fn:Func} {c:Code} {te:Nat} {A:AT} {C:List CT} {F:A.T -> Option (ctsT C Unit)} {G:List (Nat × Seg)} (hf:P.funcs[f]? = some fn) (hn:(fn.name == "runtime.NumGoroutine") = false) (hb:fn.body = some c) (hNN:fn.ntmps = N) (hlim:Nat.ble N lim = true)
  (hA:A.noOwn = true) (hC:C.all CT.fresh = true) (hlen:∀ y,Nat.ble (A.svs y).length N = true) {rs:List ResultVar} (hrs:fn.results.toList = rs) (hG:SegsOk P N c G) {I:Inl (ctsT C Unit)} (hI:InlsOk P I) (h:∀ y,F y = ev T P N U f G I c 1 ⟨fnSlots 0 (A.svs y),[]⟩ (finN P rs te C)):NEnt.Ok P ⟨f,A,te,C,F⟩:=by
 subst hNN;intro y x hy;have hy:F y = some x:=hy;rw [h y] at hy;have hlen:(A.svs y).length <= fn.ntmps:=Nat.le_of_ble_eq_true (hlen y);refine ⟨fun as w=>?_,fun rd w k vs hvl hvs=>?_⟩
 ·have h1:fn.name ≠ "runtime.NumGoroutine":=by simpa using hn
  simp [callFunc,hf,h1,hb,mark]
 ·let g0:Gh:=⟨fun _=>0,fun _=>.free,⟨fun _=>undef,[],fun _=>none⟩⟩
  let a0:Act:={ tmps:=#[],defers:=[] }
  let E:Env:=(topE w k).inner a0 g0 fn.ntmps none (Nat.le_of_ble_eq_true hlim)
  have hE:E.Ok P:=⟨(topE_lp (P:=P)).inner (g:=g0) (fun n hn=>rfl) (fun x hx=>by cases hx),Env.Rd.inner (fun l hl=>by cases hl),by show (if lim < sh then none else (none:Option LpI)) = none; rw [if_pos lim_sh]⟩
  have hvl:vs.length = (A.svs y).length:=hvl;have hsz:(vs.toArray ++ Array.replicate (fn.ntmps - vs.toArray.size) undef).size = fn.ntmps:=by simp; omega
  have hget:∀ t,t < vs.length -> (vs.toArray ++ Array.replicate (fn.ntmps - vs.toArray.size) undef).getD t undef = vs[t]?.getD undef:=fun t ht=>by
   rw [Array.getD_eq_getD_getElem?,Array.getElem?_append_left (by simpa using ht)]
   simp
  have hR:Rel E ⟨fnSlots 0 (A.svs y),[]⟩ { tmps:=vs.toArray ++ Array.replicate (fn.ntmps - vs.toArray.size) undef,defers:=[] } w ⟨fun _=>0,fun _=>.free,dyIn a0 [] g0.dy⟩:=by
   refine ⟨⟨(fnSlots_uniq (A.svs y) 0).1,by simp [Uniq]⟩,fun t x hx=>?_,fun n e cs hn=>by simp at hn,fun n e cs hn=>by simp at hn,fun b hb=>absurd rfl hb,Bel.refl _ _ _,Nat.le_refl _,hsz,rfl,fun l o hl=>by simp [dyIn,g0] at hl,fun n hn=>rfl,⟨g0.dy,[],rfl,rfl,fun _=>rfl,List.nodup_nil,fun D hD=>(by cases hD),rfl⟩⟩
   obtain ⟨_,hx⟩:=fnSlots_look (A.svs y) 0 t x hx;simp only [Nat.sub_zero] at hx;have ht:t < vs.length:=by have:=(List.getElem?_eq_some_iff.1 hx).1; omega
   have hlt:t < lim:=by
    have:=Nat.le_of_ble_eq_true hlim;omega
   rw [tv_own hlt];show SVR _ _ _ (Array.getD _ t undef);rw [hget t ht,List.getElem?_eq_getElem ht];obtain ⟨us,e1,e2,e3,e4⟩:=hvs t x _ hx (List.getElem?_eq_getElem ht);refine ⟨us,e1,e2,e3,fun i q z hq hz=>⟨(e4 i q z hq hz).1,?_⟩⟩
   have hqp:q.plain = true:=by
    have hpl:=svs_plain (a:=A) (x:=y) hA;rw [List.all_eq_true] at hpl;have:=hpl x (List.mem_of_getElem? hx);rw [List.all_eq_true] at this;exact this q (List.mem_of_getElem? hq)
   refine plain_mono hqp (e4 i q z hq hz).2 (fun b j z k1 k2=>⟨k2,?_⟩) (fun b j z k1 k2=>⟨k2,.inl ⟨World.block_lt_of_cell? w ⟨b,j,none⟩ k2,fun h=>h.elim⟩⟩)
   have hbl:b < w.heap.size:=World.block_lt_of_cell? w ⟨b,j,none⟩ k2;show ok w.heap.size k (fun _=>.free) b j
   simp only [ok,if_pos hbl];exact k1
  have hw:=ev_sound (E:=E) hT hI hE hmo rfl ⟨fn,hf,hb,rfl⟩ hG c 1 _ _ x .root hy _ w _ hR;have hc:CallsIn (Fr none) 9 P f vs.toArray w fun ee w'=>∃ (b n:Nat) (us:List Value) (perm:Nat -> Perm),ee = .returned (.pointer (some ⟨b,0,none⟩)) /\ Below w.heap.size w w' /\ (∀ b,perm b ≠ .free -> w.heap.size <= b /\ b < w'.heap.size) /\
    perm b = .box n /\ w'.heap[b]? = some (.cells us.toArray te (0,0)) /\ us.length = (ctsEmb C x).1.length /\
    ∀ i p q,(ctsEmb C x).1[i]? = some p -> us[i]? = some q -> q.oneCell' = true /\ CV ⟨w',ok w.heap.size k perm,perm,fun _=>0,fun _=>none,ok w.heap.size k perm⟩ (.box 0 i) p q:=by
   refine callsIn_of_wp_marks hf hb trivial (wpIn_mono hw fun e a1 w1 hq=>?_)
   obtain ⟨s',g1,hq,hR1⟩:=hq;obtain ⟨hex,n,cs,f0,hl,hbx,hd,hfx⟩:=finN_some hq
   have go:LeavesInM (Fr none) 9 P fn a1.tmps (fun ee w'=>∃ (b n:Nat) (us:List Value) (perm:Nat -> Perm),ee = .returned (.pointer (some ⟨b,0,none⟩)) /\ Below w.heap.size w w' /\ (∀ b,perm b ≠ .free -> w.heap.size <= b /\ b < w'.heap.size) /\
    perm b = .box n /\ w'.heap[b]? = some (.cells us.toArray te (0,0)) /\ us.length = (ctsEmb C x).1.length /\
    ∀ i p q,(ctsEmb C x).1[i]? = some p -> us[i]? = some q -> q.oneCell' = true /\ CV ⟨w',ok w.heap.size k perm,perm,fun _=>0,fun _=>none,ok w.heap.size k perm⟩ (.box 0 i) p q) a1.defers .returning w1:=by
    refine marks_out hE.rd rfl _ _ _ _ rfl hR1 fun w' g' hR'=>?_
    obtain ⟨vs',er,hlv,hcv⟩:=resOf_sound _ _ hl hR';have hrun:=results_run (P:=P) (w:=w') (fn:=fn) (by rw [hrs]; exact er)
    obtain ⟨v0,rfl⟩:=List.length_eq_one_iff.1 hlv;obtain ⟨pl,hs⟩:=hcv 0 _ v0 rfl rfl;have hv0:v0 = .pointer (some ⟨g'.ι n,0,none⟩):=hs.one.2;have b1:=(hR'.boxes n te cs (St.box?_eq hbx).1).1;obtain ⟨us2,b2,b3,b4⟩:=hR'.norm hbx;obtain ⟨kk,c1,c2,_,c4⟩:=cts_sound hd b3 b4;have hkk:(ctsEmb C x).1 = kk:=by rw [<- hfx,c1]
    have hfr:=emb_fresh x hC;rw [hkk] at hfr ⊢;refine ⟨_,hrun,g'.ι n,n,us2,g'.perm,?_,hR'.below.below fun _ h=>h.elim,fun b hb=>⟨(hR'.lo b hb).1.resolve_right fun h=>h.1.elim,(hR'.lo b hb).2⟩,b1,b2,by rw [b3,c2],fun i p q hp hq=>⟨(c4 i p q hp hq).1,fresh_mono (hfr p (List.mem_of_getElem? hp)) (c4 i p q hp hq).2 (fun b j v k1 k2=>⟨k2,k1⟩) (fun _ _ h=>h)⟩⟩
    show Ending.returned v0 = _;rw [hv0]
   rcases hex with rfl | rfl
   ·exact go
   ·exact go
  exact ⟨trivial,hc.2⟩
end
end Go.Proofs.YthnagpmnoncijaaGreat.M
