/- A part of the proof. -/
import Derived.Test.YthnagpmnoncijaaGreatMchK
set_option linter.unusedVariables false
namespace Go.Proofs.YthnagpmnoncijaaGreat.M
open Go Go.RowKit
section
variable {P:Program} {w:World}
theorem DV.news {k:Nat -> Nat -> Prop} {t:Ty} {ys:List t.T} {y:Value} (h:DV w k (.lst t ys) y) (hne:ys ≠ []) :
  ∃ (b off cap:Nat) (news:List Value),y = .slice (some ⟨b,off,none⟩) ys.length cap /\ news.length = ys.length * t.n /\ (∀ j u,news[j]? = some u -> w.cell? ⟨b,off + j,none⟩ = some u /\ u.oneCell' = true) /\
   ∀ (i j:Nat) q x u,ys[i]? = some q -> (enc t q)[j]? = some x -> news[i * t.n + j]? = some u -> DV w k x u:=by
 cases h with
 | emp=>exact absurd rfl hne
 | lst t ys b off cap u hc h1 hd hcap hm=>
  have hdm:∀ m,m < ys.length * t.n -> m / t.n < ys.length /\ m % t.n < t.n /\ m / t.n * t.n + m % t.n = m:=fun m hm=>by
   have hpos:0 < t.n:=by
    rcases Nat.eq_zero_or_pos t.n with h | h
    ·rw [h] at hm; omega
    ·exact h
   refine ⟨Nat.div_lt_of_lt_mul (by rw [Nat.mul_comm]; exact hm),Nat.mod_lt _ hpos,?_⟩
   rw [Nat.mul_comm]; exact Nat.div_add_mod m t.n
  refine ⟨b,off,cap,(List.range (ys.length * t.n)).map (fun m=>u (m / t.n) (m % t.n)),rfl,by simp,fun j x hx=>?_,fun i j q x z hq hx hz=>?_⟩
  ·rw [List.getElem?_map] at hx;have hj:j < ys.length * t.n:=by
    by_cases hj:j < ys.length * t.n
    ·exact hj
    ·rw [List.getElem?_eq_none (by simp; omega)] at hx; simp at hx
   rw [List.getElem?_range hj] at hx;simp at hx; subst hx;obtain ⟨d1,d2,d3⟩:=hdm j hj;have:=(hc _ _ d1 d2).1;rw [Nat.add_assoc,d3] at this;exact ⟨this,h1 _ _ d1 d2⟩
  ·have hi:=(List.getElem?_eq_some_iff.1 hq).1;have hj:=(List.getElem?_eq_some_iff.1 hx).1;rw [enc_length] at hj;have hlt:=mul_get hi hj;rw [List.getElem?_map,List.getElem?_range hlt] at hz;simp at hz; subst hz;have e1:(i * t.n + j) / t.n = i:=by
    rw [Nat.mul_comm,Nat.mul_add_div (by omega),Nat.div_eq_of_lt hj,Nat.add_zero]
   rw [e1,Nat.mod_eq_of_lt hj];exact hd i j q x hq hx
theorem append_none {t ty e:TypeId} {j:TypeInfo} {base src:Option Addr} {n cap c:Nat} (hu:P.underlying t = some (.slice e)) (hj:P.info? e = some j) (hc:n <= cap) :
  (Builtin.append_ #[t,t] ty #[.slice base n cap,.slice src 0 c]).run P w = .ok (.slice base n cap) w:=by
 have hf:(Builtin.firstCells j.size 0 (.slice src 0 c)).run P w = .ok #[] w:=by
  cases src <;> simp [Builtin.firstCells,loadCells,loadCellsFrom]
 cases base <;> simp [Builtin.append_,run_underlying hu,sizeOf,typeInfo,hj,Builtin.lenOf,hc,hf,storeCells]
theorem append_ways {t ty e:TypeId} {j:TypeInfo} {z:Value} {u y:Value} {n:Nat} {us:List Value} {tt:Ty} {ys:List tt.T} {k:Nat -> Nat -> Prop} (hjs:j.size = tt.n) (hu:P.underlying t = some (.slice e)) (hj:P.info? e = some j) (hz:j.zero = some z) (hzs:z.cells.size = j.size) (hpos:0 < j.size)
  (ho:w.ownsRow 0 e j.size u n us) (hy:DV w k (.lst tt ys) y) (h63:n + ys.length <= maxLen) (hby:(n + ys.length) * j.bytes <= 140737488355328) :
  (ys = [] /\ (Builtin.append_ #[t,t] ty #[u,y]).run P w = .ok u w) \/
  (∃ news:List Value,news.length = ys.length * j.size /\ (∀ (i:Nat) x,news[i]? = some x -> x.oneCell' = true) /\ (∀ (i jj:Nat) q x v,ys[i]? = some q -> (enc tt q)[jj]? = some x -> news[i * j.size + jj]? = some v -> DV w k x v) /\
   ((∃ gb cap cur,u = .slice (some ⟨gb,0,none⟩) n cap /\ w.heap[gb]? = some (.cells cur e (0,0)) /\ n + ys.length <= cap /\ cap <= maxLen /\ cur.size = cap * j.size /\ cur.toList.take (n * j.size) = us /\
     (Builtin.append_ #[t,t] ty #[u,y]).run P w = .ok (.slice (some ⟨gb,0,none⟩) (n + ys.length) cap) (w.setRow gb (cur.toList.take (n * j.size) ++ news ++ cur.toList.drop (n * j.size + news.length)).toArray)) \/
    (∃ cap cur,n + ys.length <= cap /\ cap <= maxLen /\ cur.size = cap * j.size /\ cur.toList.take ((n + ys.length) * j.size) = us ++ news /\
     (Builtin.append_ #[t,t] ty #[u,y]).run P w = .ok (.slice (some ⟨w.heap.size,0,none⟩) (n + ys.length) cap) (w.drew.alloc (.cells cur e))))):=by
 by_cases hne:ys = []
 ·subst hne;left;refine ⟨rfl,?_⟩;have hn:∃ base cap,u = .slice base n cap /\ n <= cap:=by
   rcases ho.2 with ⟨rfl,rfl⟩ | ⟨gb,cap,cur,rfl,_,_,h,_⟩
   ·exact ⟨none,0,rfl,Nat.le_refl _⟩
   ·exact ⟨_,cap,rfl,h⟩
  obtain ⟨base,cap,rfl,hc⟩:=hn;cases hy with
  | emp t a c _=>exact append_none hu hj hc
  | lst t l b off c u'=>exact append_none hu hj hc
 ·right;obtain ⟨b,off,c,news,rfl,hnl,hnews,hnd⟩:=hy.news hne;rw [<- hjs] at hnl;rw [<- hjs] at hnd;have hm:0 < ys.length:=by cases ys <;> simp_all
  have hnews':∀ i x,news[i]? = some x -> w.cell? ((⟨b,off,none⟩:Addr).add i) = some x:=fun i x hx=>by rw [Addr.add_mid]; exact (hnews i x hx).1
  have h1:∀ x ∈ news,x.oneCell' = true:=fun x hx=>by
   obtain ⟨i,hi⟩:=List.mem_iff_getElem?.1 hx;exact (hnews i x hi).2
  refine ⟨news,hnl,fun i x hx=>(hnews i x hx).2,hnd,?_⟩
  have hsmall:n + ys.length <= 9223372036854775807:=by simp only [maxLen] at h63; omega
  have grown:∀ (old:Nat) (us:List Value),us.length = n * j.size ->
    n + ys.length <= grownCap w (n + ys.length) old e /\ grownCap w (n + ys.length) old e <= maxLen /\
    (us.toArray ++ news.toArray ++ Builtin.zeroCells z.cells (grownCap w (n + ys.length) old e - (n + ys.length))).size = grownCap w (n + ys.length) old e * j.size /\
    (us.toArray ++ news.toArray ++ Builtin.zeroCells z.cells (grownCap w (n + ys.length) old e - (n + ys.length))).toList.take ((n + ys.length) * j.size) = us ++ news:=fun old us hus=>by
   have hge:=grownCap_ge w (n + ys.length) old e;refine ⟨hge,grownCap_le_maxLen w _ old e h63,?_,?_⟩
   ·simp only [Array.size_append,List.size_toArray,size_zeroCells,hzs,hus,hnl,<- Nat.add_mul]
    congr 1
    omega
   ·have hlen:(us ++ news).length = (n + ys.length) * j.size:=by rw [List.length_append,hus,hnl,Nat.add_mul]
    simp only [Array.toList_append,List.append_assoc];rw [<- List.append_assoc,<- hlen];exact List.take_left
  rcases ho.2 with ⟨rfl,rfl⟩ | ⟨gb,cap,cur,rfl,hbg,hg,hnc,hcm,hcs,htake⟩
  ·have hx:us = []:=List.eq_nil_of_length_eq_zero (by simpa using ho.1)
   subst hx;right;have hr:=run_append_nil (P:=P) w t ty e j z hu hj hz ⟨b,off,none⟩ ys.length c news hnl hnews' hm (by omega) (by have hb:=hby; simp only [Nat.zero_add] at hb; omega)
   obtain ⟨g1,g2,g3,g4⟩:=grown 0 [] (by simp)
   simp only [Nat.zero_add,List.nil_append,Array.empty_append] at g1 g2 g3 g4 ⊢;exact ⟨_,_,g1,g2,g3,g4,hr⟩
  ·by_cases hroom:n + ys.length <= cap
   ·left;have hfit:n * j.size + news.length <= cur.size:=by rw [hnl,hcs,<- Nat.add_mul]; exact Nat.mul_le_mul_right _ hroom
    have hr:=run_append_room (P:=P) w t ty e j hu hj gb n cap cur hg ⟨b,off,none⟩ ys.length c news hnl hnews' h1 hroom hfit;exact ⟨gb,cap,cur,rfl,hg,hroom,hcm,hcs,htake,hr⟩
   ·right;have holds:∀ i x,us[i]? = some x -> w.cell? ((⟨gb,0,none⟩:Addr).add i) = some x:=ho.cells (g:=gb) rfl
    have hr:=run_append_grow (P:=P) w t ty e j z hu hj hz ⟨gb,0,none⟩ n cap us ho.1 holds ⟨b,off,none⟩ ys.length c news hnl hnews' (by omega) (by omega) (growslice_fits (by omega) hby)
    obtain ⟨g1,g2,g3,g4⟩:=grown cap us ho.1;exact ⟨_,_,g1,g2,g3,g4,hr⟩
end
end Go.Proofs.YthnagpmnoncijaaGreat.M
